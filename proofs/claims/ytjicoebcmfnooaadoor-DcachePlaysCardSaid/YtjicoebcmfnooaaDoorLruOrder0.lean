/-
  LruOrder, the plain law: which keys go, which stay.
-/
import Derived.Test.YtjicoebcmfnooaaDoorLruLen0
import Derived.Test.YtjicoebcmfnooaaDoorLru7
namespace Go.Proofs.YtjicoebcmfnooaaDoor
open Go Go.RowKit
set_option linter.unusedSectionVars false
set_option linter.unusedSimpArgs false
set_option linter.unusedVariables false

/-- Of keys with pins: which go, which stay, when n may go. -/
def parts (n : Nat) (L : List Pair) : List ByteArray × List ByteArray :=
  L.foldl (fun (q : List ByteArray × List ByteArray) (x : Pair) => if x.2 = 0 ∧ q.1.length < n then (q.1 ++ [x.1], q.2) else (q.1, q.2 ++ [x.1])) ([], [])

theorem parts_snoc (n : Nat) (L : List Pair) (x : Pair) : parts n (L ++ [x]) = if x.2 = 0 ∧ (parts n L).1.length < n then ((parts n L).1 ++ [x.1], (parts n L).2) else ((parts n L).1, (parts n L).2 ++ [x.1]) := by
  unfold parts
  rw [List.foldl_append]
  rfl

def notIn (ks : List ByteArray) (s : ByteArray) : Bool := ks.all fun t => decide (s ≠ t)

theorem dropAll_filter : ∀ (ks : List ByteArray) {L : List Pair}, (L.map Prod.fst).Nodup → (dropAll L ks).map Prod.fst = (L.map Prod.fst).filter (notIn ks) := by
  intro ks
  induction ks with
  | nil =>
    intro L hn
    have : ∀ M : List ByteArray, M.filter (notIn []) = M := fun M => List.filter_eq_self.2 (fun s _ => rfl)
    rw [this]
    rfl
  | cons k r ih =>
    intro L hn
    have h1 : dropAll L (k :: r) = dropAll (adel L k) r := rfl
    rw [h1, ih (adel_nodup hn k), adel_map hn, List.filter_filter]
    apply List.filter_congr
    intro s _
    simp only [notIn, List.all_cons]
    rw [Bool.and_comm]

theorem notIn_iff {ks : List ByteArray} {s : ByteArray} : notIn ks s = true ↔ s ∉ ks := by
  unfold notIn
  rw [List.all_eq_true]
  constructor
  · intro h q
    have := h s q
    simp at this
  · intro h t q
    simp only [ne_eq, decide_eq_true_eq]
    exact fun e => h (e ▸ q)

theorem snoc_ind {α : Type} {p : List α → Prop} (h0 : p []) (h1 : ∀ l x, p l → p (l ++ [x])) : ∀ l, p l := by
  have : ∀ (n : Nat) (l : List α), l.length = n → p l := by
    intro n
    induction n with
    | zero => intro l hl; rw [List.length_eq_zero_iff.1 hl]; exact h0
    | succ n ih =>
      intro l hl
      rcases List.eq_nil_or_concat l with rfl | ⟨r, x, rfl⟩
      · exact h0
      · rw [List.concat_eq_append] at hl ⊢
        simp at hl
        exact h1 r x (ih r hl)
  exact fun l => this _ l rfl

/-- What goes are the first of those that are loose; what stays are the others. -/
theorem parts_gone (n : Nat) (L : List Pair) : (parts n L).1 = (looseL L).take n := by
  revert L
  refine snoc_ind (by simp [parts, looseL]) ?_
  · intro L x ih
    rw [parts_snoc, looseL_snoc, ih]
    by_cases hx : x.2 = 0
    · by_cases hl : ((looseL L).take n).length < n
      · rw [if_pos ⟨hx, hl⟩, if_pos hx]
        rw [List.length_take] at hl
        rw [List.take_of_length_le (by omega), List.take_of_length_le (by simp; omega)]
      · rw [if_neg (fun q => hl q.2), if_pos hx]
        rw [List.length_take] at hl
        rw [List.take_append_of_le_length (by omega)]
    · rw [if_neg (fun q => hx q.1), if_neg hx, List.append_nil]

theorem parts_sub (n : Nat) (L : List Pair) : ∀ s ∈ (parts n L).1, s ∈ L.map Prod.fst := by
  rw [parts_gone]
  intro s hs
  have := List.mem_of_mem_take hs
  unfold looseL at this
  obtain ⟨x, hx, rfl⟩ := List.mem_map.1 this
  exact List.mem_map_of_mem (List.mem_filter.1 hx).1

theorem parts_stay (n : Nat) (L : List Pair) : (L.map Prod.fst).Nodup → (parts n L).2 = (L.map Prod.fst).filter (notIn (parts n L).1) := by
  revert L
  refine snoc_ind (by intro _; simp [parts]) ?_
  intro L x ih hn
  rw [List.map_append, List.nodup_append] at hn
  obtain ⟨h1, _, h3⟩ := hn
  have hx : x.1 ∉ L.map Prod.fst := fun q => h3 x.1 q x.1 (by simp) rfl
  rw [parts_snoc]
  by_cases hc : x.2 = 0 ∧ (parts n L).1.length < n
  · rw [if_pos hc, List.map_append, List.filter_append, ih h1]
    have e1 : (L.map Prod.fst).filter (notIn ((parts n L).1 ++ [x.1])) = (L.map Prod.fst).filter (notIn (parts n L).1) := by
      apply List.filter_congr
      intro s hs
      have hne : s ≠ x.1 := fun e => hx (e ▸ hs)
      simp [notIn, hne]
    have e2 : notIn ((parts n L).1 ++ [x.1]) x.1 = false := by simp [notIn]
    simp only [e1, List.map_cons, List.map_nil, List.filter_cons, e2, Bool.false_eq_true, if_false, List.filter_nil, List.append_nil]
  · rw [if_neg hc, List.map_append, List.filter_append, ih h1]
    have e2 : notIn (parts n L).1 x.1 = true := notIn_iff.2 (fun q => hx (parts_sub n L _ q))
    simp only [List.map_cons, List.map_nil, List.filter_cons, e2, if_true, List.filter_nil]

/-! ### the list whose first k keys have been looked at: pinned or not -/

def pinL (bs : List Bool) (L : List Pair) (k : Nat) : List Pair := L.mapIdx fun i x => (x.1, if i < k ∧ bs.getD i false = true then 1 else 0)

theorem pinL_len (bs : List Bool) (L : List Pair) (k : Nat) : (pinL bs L k).length = L.length := by simp [pinL]

theorem pinL_get {bs : List Bool} {L : List Pair} {i : Nat} {x : Pair} (k : Nat) (h : L[i]? = some x) : (pinL bs L k)[i]? = some (x.1, if i < k ∧ bs.getD i false = true then 1 else 0) := by
  unfold pinL
  rw [List.getElem?_mapIdx, h]
  rfl

theorem pinL_fst (bs : List Bool) (L : List Pair) (k : Nat) : (pinL bs L k).map Prod.fst = L.map Prod.fst := by
  apply List.ext_getElem?
  intro i
  unfold pinL
  rw [List.getElem?_map, List.getElem?_mapIdx, List.getElem?_map]
  cases L[i]? <;> rfl

theorem pinL_zero (bs : List Bool) {L : List Pair} (h : plainL L) : pinL bs L 0 = L := by
  apply List.ext_getElem?
  intro i
  cases hx : L[i]? with
  | none => rw [List.getElem?_eq_none_iff] at hx ⊢; rw [pinL_len]; exact hx
  | some x =>
    rw [pinL_get 0 hx, if_neg (by omega)]
    have := h x (List.mem_of_getElem? hx)
    rw [← this]

theorem pinL_skip {bs : List Bool} (L : List Pair) {k : Nat} (h : bs.getD k false = false) : pinL bs L (k + 1) = pinL bs L k := by
  apply List.ext_getElem?
  intro i
  cases hx : L[i]? with
  | none => rw [List.getElem?_eq_none (by rw [pinL_len]; exact List.getElem?_eq_none_iff.1 hx), List.getElem?_eq_none (by rw [pinL_len]; exact List.getElem?_eq_none_iff.1 hx)]
  | some x =>
    rw [pinL_get _ hx, pinL_get _ hx]
    by_cases e : i = k
    · subst e
      rw [h, if_neg (by simp), if_neg (by simp)]
    · by_cases h2 : i < k ∧ bs.getD i false = true
      · rw [if_pos h2, if_pos ⟨by omega, h2.2⟩]
      · rw [if_neg h2, if_neg (fun q => h2 ⟨by omega, q.2⟩)]

theorem pinL_bd (bs : List Bool) (L : List Pair) (k : Nat) (key : ByteArray) : ∀ p, aget (pinL bs L k) key = some p → 0 ≤ p ∧ p ≤ 1000000 := by
  intro p h
  obtain ⟨i, hi⟩ := List.mem_iff_getElem?.1 (pget_mem h)
  have hl := (List.getElem?_eq_some_iff.1 hi).1
  rw [pinL_len] at hl
  rw [pinL_get k (List.getElem?_eq_getElem hl)] at hi
  simp only [Option.some.injEq, Prod.mk.injEq] at hi
  rw [← hi.2]
  split <;> omega

theorem pinL_pin {bs : List Bool} {L : List Pair} {k : Nat} {x : Pair} (hn : (L.map Prod.fst).Nodup) (hx : L[k]? = some x) (h : bs.getD k false = true) : setPins (pinL bs L k) x.1 1 = (pinL bs L (k + 1), true) := by
  have h1 := pinL_get (bs := bs) k hx
  rw [if_neg (by omega)] at h1
  have hnd : ((pinL bs L k).map Prod.fst).Nodup := by rw [pinL_fst]; exact hn
  have hg : aget (pinL bs L k) x.1 = some 0 := pget_of_mem hnd (List.mem_of_getElem? h1)
  obtain ⟨j, _, hj2, hj3, hj4⟩ := aset_at (u := 0 + 1) hg
  have hjk : j = k := by
    have e1 : ((pinL bs L k).map Prod.fst)[j]? = some x.1 := by rw [List.getElem?_map, hj2]; rfl
    have e2 : ((pinL bs L k).map Prod.fst)[k]? = some x.1 := by rw [List.getElem?_map, h1]; rfl
    exact (List.getElem?_inj (by rw [List.length_map]; exact hj3) hnd).1 (e1.trans e2.symm)
  subst hjk
  unfold setPins
  rw [hg]
  simp only
  rw [if_neg (by omega), ← hj4]
  congr 1
  apply List.ext_getElem?
  intro i
  by_cases e : i = j
  · subst e
    rw [List.getElem?_set_self hj3, pinL_get _ hx, if_pos ⟨by omega, h⟩]
    rfl
  · rw [List.getElem?_set_ne (fun q => e q.symm)]
    cases hy : L[i]? with
    | none => rw [List.getElem?_eq_none (by rw [pinL_len]; exact List.getElem?_eq_none_iff.1 hy), List.getElem?_eq_none (by rw [pinL_len]; exact List.getElem?_eq_none_iff.1 hy)]
    | some y =>
      rw [pinL_get _ hy, pinL_get _ hy]
      by_cases h2 : i < j ∧ bs.getD i false = true
      · rw [if_pos h2, if_pos ⟨by omega, h2.2⟩]
      · rw [if_neg h2, if_neg (fun q => h2 ⟨by omega, q.2⟩)]

theorem pinL_take {bs : List Bool} {L : List Pair} {k : Nat} {x : Pair} (hx : L[k]? = some x) : (pinL bs L (k + 1)).take (k + 1) = (pinL bs L k).take k ++ [(x.1, if bs.getD k false = true then 1 else 0)] := by
  rw [List.take_add_one, pinL_get _ hx]
  have e : (pinL bs L (k + 1)).take k = (pinL bs L k).take k := by
    apply List.ext_getElem?
    intro i
    rw [List.getElem?_take, List.getElem?_take]
    by_cases hi : i < k
    · rw [if_pos hi, if_pos hi]
      cases hy : L[i]? with
      | none => rw [List.getElem?_eq_none (by rw [pinL_len]; exact List.getElem?_eq_none_iff.1 hy), List.getElem?_eq_none (by rw [pinL_len]; exact List.getElem?_eq_none_iff.1 hy)]
      | some y =>
        rw [pinL_get _ hy, pinL_get _ hy]
        by_cases h2 : bs.getD i false = true
        · rw [if_pos ⟨by omega, h2⟩, if_pos ⟨by omega, h2⟩]
        · rw [if_neg (fun q => h2 q.2), if_neg (fun q => h2 q.2)]
    · rw [if_neg hi, if_neg hi]
  rw [e]
  by_cases h2 : bs.getD k false = true
  · rw [if_pos ⟨by omega, h2⟩, if_pos h2]; rfl
  · rw [if_neg (fun q => h2 q.2), if_neg h2]; rfl

/-- What the law's third loop comes to. -/
theorem parts_step {bs : List Bool} {L : List Pair} {k : Nat} {x : Pair} (n : Nat) (hx : L[k]? = some x) : parts n ((pinL bs L (k + 1)).take (k + 1)) =
    if bs.getD k false = false ∧ (parts n ((pinL bs L k).take k)).1.length < n then ((parts n ((pinL bs L k).take k)).1 ++ [x.1], (parts n ((pinL bs L k).take k)).2) else ((parts n ((pinL bs L k).take k)).1, (parts n ((pinL bs L k).take k)).2 ++ [x.1]) := by
  rw [pinL_take hx, parts_snoc]
  by_cases h : bs.getD k false = true
  · rw [if_pos h, if_neg (fun q => by simp at q), if_neg (fun q => by rw [h] at q; simp at q)]
  · have h' : bs.getD k false = false := by simpa using h
    rw [if_neg h, h']
    simp only [true_and]

theorem parts_len (n : Nat) (L : List Pair) : (parts n L).1.length + (parts n L).2.length = L.length := by
  revert L
  refine snoc_ind (by simp [parts]) ?_
  intro L x ih
  rw [parts_snoc]
  split <;> simp <;> omega

end Go.Proofs.YtjicoebcmfnooaaDoor
