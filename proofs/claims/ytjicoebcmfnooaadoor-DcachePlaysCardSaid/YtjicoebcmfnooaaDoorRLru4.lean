/-
  The document's list: Shrink.
-/
import Derived.Test.YtjicoebcmfnooaaDoorRLru3
namespace Go.Proofs.YtjicoebcmfnooaaDoor
open Go Go.RowKit
set_option linter.unusedSectionVars false
set_option linter.unusedSimpArgs false
set_option linter.unusedVariables false

/-! ### the plain law -/

def partsStep (n : Nat) (q : List ByteArray × List Pair) (x : Pair) : List ByteArray × List Pair := if x.2 = 0 ∧ q.1.length < n then (q.1 ++ [x.1], q.2) else (q.1, q.2 ++ [x])
def partsP (n : Nat) (L : List Pair) : List ByteArray × List Pair := L.foldl (partsStep n) ([], [])

theorem partsP_snoc (n : Nat) (L : List Pair) (x : Pair) : partsP n (L ++ [x]) = if x.2 = 0 ∧ (partsP n L).1.length < n then ((partsP n L).1 ++ [x.1], (partsP n L).2) else ((partsP n L).1, (partsP n L).2 ++ [x]) := by
  unfold partsP
  rw [List.foldl_append]
  rfl

theorem fold_full (n : Nat) : ∀ (M : List Pair) (q : List ByteArray × List Pair), n ≤ q.1.length → M.foldl (partsStep n) q = (q.1, q.2 ++ M) := by
  intro M
  induction M with
  | nil => intro q _; simp
  | cons x r ih =>
    intro q h
    have e : partsStep n q x = (q.1, q.2 ++ [x]) := by unfold partsStep; rw [if_neg (by omega)]
    rw [List.foldl_cons, e, ih (q.1, q.2 ++ [x]) h]
    simp

theorem partsP_full (n : Nat) (L : List Pair) (j : Nat) (h : n ≤ (partsP n (L.take j)).1.length) : partsP n L = ((partsP n (L.take j)).1, (partsP n (L.take j)).2 ++ L.drop j) := by
  have e : partsP n L = (L.drop j).foldl (partsStep n) (partsP n (L.take j)) := by
    conv => lhs; rw [← List.take_append_drop j L]
    unfold partsP
    rw [List.foldl_append]
  rw [e, fold_full n _ _ h]

theorem partsP_gone (n : Nat) (L : List Pair) : (partsP n L).1 = (looseL L).take n := by
  revert L
  refine snoc_ind (by simp [partsP, looseL]) ?_
  · intro L x ih
    rw [partsP_snoc, looseL_snoc, ih]
    by_cases hx : x.2 = 0
    · by_cases hl : ((looseL L).take n).length < n
      · rw [if_pos ⟨hx, hl⟩, if_pos hx]
        rw [List.length_take] at hl
        rw [List.take_of_length_le (by omega), List.take_of_length_le (by simp; omega)]
      · rw [if_neg (fun q => hl q.2), if_pos hx]
        rw [List.length_take] at hl
        rw [List.take_append_of_le_length (by omega)]
    · rw [if_neg (fun q => hx q.1), if_neg hx, List.append_nil]

theorem partsP_sub (n : Nat) (L : List Pair) : ∀ s ∈ (partsP n L).1, s ∈ L.map Prod.fst := by
  rw [partsP_gone]
  intro s hs
  have := List.mem_of_mem_take hs
  unfold looseL at this
  obtain ⟨x, hx, rfl⟩ := List.mem_map.1 this
  exact List.mem_map_of_mem (List.mem_filter.1 hx).1

theorem partsP_stay (n : Nat) (L : List Pair) : (L.map Prod.fst).Nodup → (partsP n L).2 = L.filter (fun x => notIn (partsP n L).1 x.1) := by
  revert L
  refine snoc_ind (by intro _; simp [partsP]) ?_
  intro L x ih hn
  rw [List.map_append, List.nodup_append] at hn
  obtain ⟨h1, _, h3⟩ := hn
  have hx : x.1 ∉ L.map Prod.fst := fun q => h3 x.1 q x.1 (by simp) rfl
  rw [partsP_snoc]
  by_cases hc : x.2 = 0 ∧ (partsP n L).1.length < n
  · rw [if_pos hc, List.filter_append, ih h1]
    have e1 : L.filter (fun y => notIn ((partsP n L).1 ++ [x.1]) y.1) = L.filter (fun y => notIn (partsP n L).1 y.1) := by
      apply List.filter_congr
      intro s hs
      have hne : s.1 ≠ x.1 := fun e => hx (e ▸ List.mem_map_of_mem hs)
      simp [notIn, hne]
    have e2 : notIn ((partsP n L).1 ++ [x.1]) x.1 = false := by simp [notIn]
    simp only [e1, List.filter_cons, e2, Bool.false_eq_true, if_false, List.filter_nil, List.append_nil]
  · rw [if_neg hc, List.filter_append, ih h1]
    have e2 : notIn (partsP n L).1 x.1 = true := notIn_iff.2 (fun q => hx (partsP_sub n L _ q))
    simp only [List.filter_cons, e2, if_true, List.filter_nil]

theorem adel_filter {L : List Pair} (hn : (L.map Prod.fst).Nodup) (key : ByteArray) : adel L key = L.filter (fun x => decide (x.1 ≠ key)) := by
  induction L with
  | nil => rfl
  | cons x r ih =>
    obtain ⟨a, u⟩ := x
    simp only [List.map_cons, List.nodup_cons] at hn
    simp only [adel, List.filter_cons]
    by_cases e : a = key
    · subst e
      simp only [if_true, ne_eq, not_true_eq_false, decide_false, Bool.false_eq_true, if_false]
      symm
      rw [List.filter_eq_self]
      intro s hs
      simp only [decide_eq_true_eq]
      exact fun q => hn.1 (by rw [← q]; exact List.mem_map_of_mem hs)
    · simp only [e, if_false, ne_eq, not_false_eq_true, decide_true, if_true]
      rw [ih hn.2]

theorem dropAll_filterP : ∀ (ks : List ByteArray) {L : List Pair}, (L.map Prod.fst).Nodup → dropAll L ks = L.filter (fun x => notIn ks x.1) := by
  intro ks
  induction ks with
  | nil =>
    intro L hn
    exact (List.filter_eq_self.2 (fun s _ => by simp [notIn])).symm
  | cons k r ih =>
    intro L hn
    have h1 : dropAll L (k :: r) = dropAll (adel L k) r := rfl
    rw [h1, ih (adel_nodup hn k), adel_filter hn, List.filter_filter]
    apply List.filter_congr
    intro s _
    simp only [notIn, List.all_cons]
    rw [Bool.and_comm]

theorem partsP_list {L : List Pair} (hn : (L.map Prod.fst).Nodup) (n : Int) : (partsP n.toNat L).1 = gone L n ∧ (partsP n.toNat L).2 = dropAll L (gone L n) := by
  have e : (partsP n.toNat L).1 = gone L n := partsP_gone _ _
  exact ⟨e, by rw [partsP_stay _ _ hn, dropAll_filterP _ hn, e]⟩

/-! ### the walk -/

structure ShrR (w wr : World) (rb : Nat) (S S' : Nat → Prop) (most : Int) (L : List Pair) (O : List ByteArray) (v : Value) : Prop where
  list : RefL wr rb S' most L
  turn : Turn w S wr S'
  row : wr.ownsRow 0 9 1 v O.length (O.map Value.string)
  own : ∀ b, v.ownBlock = some b → w.heap.size ≤ b ∧ ¬ S' b

theorem ShrR.push {w wr w3 w8 : World} {C : Obj} {rb o cap n8 c8 : Nat} {sa a8 : Option Addr} {S S' S3 : Nat → Prop} {most : Int} {T T' : List Pair} {O : List ByteArray} {s : ByteArray} (h : ShrR w wr rb S S' most T O (.slice sa o cap)) (r : RefL w3 rb S3 most T') (t : Turn wr S' w3 S3)
    (hn : n8 = O.length + 1) (q1 : w8.ownsRow 0 9 1 (.slice a8 n8 c8) n8 (O.map Value.string ++ [.string s])) (q2 : Keep (w3.alloc C) w8 (fun b => some b = (Value.slice sa o cap).ownBlock)) (q3 : ∀ b, (Value.slice a8 n8 c8).ownBlock = some b → (Value.slice sa o cap).ownBlock = some b ∨ b = (w3.alloc C).heap.size) :
    ShrR w w8 rb S S3 most T' (O ++ [s]) (.slice a8 n8 c8) := by
  have hz : (w3.alloc C).heap.size = w3.heap.size + 1 := by simp
  have hz3 := t.keep.size
  have hzr := h.turn.keep.size
  have hlt : ∀ b, (Value.slice sa o cap).ownBlock = some b → b < wr.heap.size := fun b q => by
    rcases rows_val h.row with ⟨e, _⟩ | ⟨g, cp, e, _, h5, h6⟩
    · rw [e] at q; simp [Value.ownBlock] at q
    · rw [h5] at q; cases q; exact h6
  have hno : ∀ b, (Value.slice sa o cap).ownBlock = some b → ¬ S3 b := fun b q z => by
    rcases t.new b z with y | y
    · exact (h.own b q).2 y
    · have := hlt b q; omega
  refine ⟨(r.aside (Keep.alloc w3 C _)).keep q2 (fun b q z => hno b z.symm q), ?_, ?_, fun b q => ?_⟩
  · refine ⟨((h.turn.trans t).keep.trans (Keep.alloc w3 C (fun _ => False)) (fun _ q => q.elim)).trans q2 (fun b q => .inr (h.own b q.symm).1), (h.turn.trans t).new⟩
  · rw [List.length_append, List.length_singleton, ← hn, List.map_append]; exact q1
  · rcases q3 b q with y | y
    · exact ⟨(h.own b y).1, hno b y⟩
    · refine ⟨by omega, fun z => ?_⟩
      have := r.lt b z
      omega

set_option maxRecDepth 100000 in
set_option maxHeartbeats 4000000 in
theorem rshrink_c {w : World} {rb : Nat} {S : Nat → Prop} {most : Int} {L : List Pair} (h : RefL w rb S most L) (hl : L.length ≤ 1000) (hn : (L.map Prod.fst).Nodup) (hp : ∀ x ∈ L, 0 ≤ x.2) (n : Int) :
    Calls Tryd.prog 36 #[.pointer (some ⟨rb, 0, none⟩), .int .i64 n] w fun r w' => ∃ v S', r = .returned v ∧ RefL w' rb S' most (dropAll L (gone L n)) ∧ Turn w S w' S' ∧ w'.ownsRow 0 9 1 v (gone L n).length ((gone L n).map Value.string) ∧ ∀ b, v.ownBlock = some b → w.heap.size ≤ b ∧ ¬ S' b := by
  have H0 : Hid (ShrR w w rb S S most L [] (.slice none 0 0)) := Lib.hid ⟨h, Turn.refl _ _, rows_nil _ _ _, fun b q => by simp [Value.ownBlock] at q⟩
  obtain ⟨ti, ti1, ti2, ti3, ti4⟩ := str_info
  have HI := Lib.hid (And.intro ti1 (And.intro ti2 (And.intro ti3 ti4)))
  have hz1 : (Value.string ByteArray.empty).cells.size = 1 := rfl
  have HN := Lib.hid (And.intro hn hp)
  clear h hn hp ti1 ti2 ti3 ti4
  go_enter Tryd.func36, Tryd.ntmps36
  go_wp2
  go_loopg [5, 6] L.length (fun g s5 s6 wr => ∃ (j i : Nat) (S' : Nat → Prop) (O : List ByteArray) (P : List Pair), s6 = .int .i64 i ∧ j + g = L.length ∧ P.length = i ∧ partsP n.toNat (L.take j) = (O, P) ∧ ShrR w wr rb S S' most (P ++ L.drop j) O s5)
  case atStart => exact ⟨0, 0, S, [], [], rfl, by omega, rfl, by simp [partsP], by simpa using H0.out⟩
  case round =>
    obtain ⟨j, i, S', O, P, rfl, hj, hP, hO, hR⟩ := hrel
    obtain ⟨sa5, cap5, rfl, hc5⟩ := rows_val2 hR.row
    obtain ⟨v, hb, hr, hS, hlb⟩ := hR.list.ex
    obtain ⟨sa, cap, rfl, hcap⟩ := rows_val2 hr
    obtain ⟨m, hm⟩ : ∃ m, m = (P ++ L.drop j).length := ⟨_, rfl⟩
    rw [← hm] at hb hr hcap hS
    have hmi : m = i + (L.length - j) := by rw [hm, List.length_append, hP, List.length_drop]
    have hPj : i ≤ 1000 := by
      have : ∀ (M : List Pair) (q : List ByteArray × List Pair), (M.foldl (partsStep n.toNat) q).2.length ≤ q.2.length + M.length := by
        intro M
        induction M with
        | nil => intro q; simp
        | cons x r ih =>
          intro q
          have h1 := ih (partsStep n.toNat q x)
          have h2 : (partsStep n.toNat q x).2.length ≤ q.2.length + 1 := by unfold partsStep; split <;> simp
          rw [List.foldl_cons, List.length_cons]
          omega
      have h1 := this (L.take j) ([], [])
      have h2 : (L.take j).foldl (partsStep n.toNat) ([], []) = (O, P) := hO
      rw [h2, List.length_take] at h1
      simp at h1
      omega
    have hOl : O.length ≤ 1000 := by
      have h1 : O = (looseL (L.take j)).take n.toNat := by rw [← partsP_gone, hO]
      rw [h1, List.length_take]
      have := looseL_len (L.take j)
      rw [List.length_take] at this
      omega
    have c1 : wr.cell? ⟨rb, 1, none⟩ = some (.slice sa m cap) := by rw [cell_blk hb]; rfl
    obtain ⟨o, ho⟩ : ∃ o, o = O.length := ⟨_, rfl⟩
    rw [← ho] at hOl hc5 hR ⊢
    have HMI := Lib.hid hmi
    have D := Lib.hid (And.intro hR (And.intro hO (And.intro hP (And.intro ho (And.intro hr hm)))))
    clear hR hO hP hb hr hS hlb ho hm hmi
    by_cases hlt : j < L.length
    · have g1 : (i : Int) < (m : Int) := by have := HMI.out; omega
      by_cases hon : (o : Int) < n
      · obtain ⟨x, hx⟩ : ∃ x, L[j]? = some x := ⟨_, List.getElem?_eq_getElem hlt⟩
        have hxi : (P ++ L.drop j)[i]? = some x := by
          rw [List.getElem?_append_right (by rw [D.out.2.2.1]; exact Nat.le_refl _), List.getElem?_drop, D.out.2.2.1, Nat.sub_self, Nat.add_zero, hx]
        have hdr : L.drop j = x :: L.drop (j + 1) := by
          rw [List.drop_eq_getElem_cons hlt]
          congr 1
          exact (List.getElem?_eq_some_iff.1 hx).2
        have htk : L.take (j + 1) = L.take j ++ [x] := by rw [List.take_add_one, hx]; rfl
        have hx0 : 0 ≤ x.2 := HN.out.2 x (List.mem_of_getElem? hx)
        obtain ⟨g, rfl, _, _, _⟩ := rows_some D.out.2.2.2.2.1 (by omega)
        have c2 : wr.cell? ⟨g, i * 2 + 1, none⟩ = some (.int .i64 x.2) := (rows_cell D.out.2.2.2.2.1 (by rw [flat_get entV 2 entV_len hxi (by omega)]; rfl)).1
        by_cases h0 : 0 < x.2
        · have HX := Lib.hid (And.intro hdr htk)
          clear hx hxi hdr htk
          go_wp2
          go_roundg (L.length - (j + 1))
          case measure => omega
          case rel =>
            refine ⟨j + 1, i + 1, S', O, P ++ [x], rfl, by omega, by rw [List.length_append, D.out.2.2.1]; rfl, ?_, ?_⟩
            · rw [HX.out.2, partsP_snoc, D.out.2.1, if_neg (by intro q; omega)]
            · have := D.out.1
              rw [HX.out.1] at this
              simp only [List.append_assoc, List.singleton_append]
              exact this
        · have ho3 := out_c D.out.1.list (by rw [← D.out.2.2.2.2.2]; have := HMI.out; omega) hxi
          have h0' : x.2 = 0 := by omega
          have HX := Lib.hid (And.intro hdr (And.intro htk h0'))
          have c2' : wr.cell? ⟨g, i * 2 + 1, none⟩ = some (.int .i64 0) := by rw [c2, h0']
          clear hx hxi hdr htk c2 h0' hx0 h0
          have hfd := item_field
          go_wp2_with (first
            | (go_at_call 47
               refine ho3.mono ?_
               rintro e w3 ⟨rfl, S3, hL3, hT3⟩
               have hr3 := rows_keep D.out.1.row hT3.keep (fun b q => (D.out.1.own b q).2)
               have N3 := Lib.hid (And.intro hL3 (And.intro hT3 hr3))
               clear ho3 hL3 hT3 hr3)
            | (at_builtin
               refine law_append_row rfl _ _ _ rfl Tryd.underlying56 HI.out.1 HI.out.2.1 HI.out.2.2.1 HI.out.2.2.2 hz1 (by omega) rfl (rows_keep N3.out.2.2 (Keep.alloc _ _ (fun _ => False)) (fun _ _ q => q)) [.string x.1] rfl rfl (.inr ⟨_, rfl, cells_new _ _ _⟩) (by simp [Value.oneCell']) (by rw [← D.out.2.2.2.1]; omega) ?_
               intro sa8 cap8 w8 q1 q2 q3
               have N8 := Lib.hid (And.intro q1 (And.intro q2 q3))
               clear q1 q2 q3))
          go_roundg (L.length - (j + 1))
          case measure => omega
          case rel =>
            refine ⟨j + 1, i, S3, O ++ [x.1], P, rfl, by omega, D.out.2.2.1, ?_, ?_⟩
            · rw [HX.out.2.1, partsP_snoc, D.out.2.1, if_pos ⟨HX.out.2.2, by have := D.out.2.2.2.1; show O.length < n.toNat; omega⟩]
            · have e1 : (P ++ L.drop j).eraseIdx i = P ++ L.drop (j + 1) := by
                rw [HX.out.1, List.eraseIdx_append_of_length_le (by rw [D.out.2.2.1]; exact Nat.le_refl _), D.out.2.2.1, Nat.sub_self]
                rfl
              have hr3 := N3.out.1
              rw [e1] at hr3
              exact D.out.1.push hr3 N3.out.2.1 rfl N8.out.1 N8.out.2.1 N8.out.2.2
      · have hon2 : n ≤ (o : Int) := by omega
        go_wp2
        go_ret
        have e1 := partsP_full n.toNat L j (by rw [D.out.2.1]; have := D.out.2.2.2.1; show n.toNat ≤ O.length; omega)
        rw [D.out.2.1] at e1
        obtain ⟨e2, e3⟩ := partsP_list HN.out.1 n
        rw [e1] at e2 e3
        rw [← e3, ← e2]
        exact ⟨_, rfl, S', D.out.1.list, D.out.1.turn, D.out.1.row, D.out.1.own⟩
    · have g1 : ¬ (i : Int) < (m : Int) := by have := HMI.out; omega
      go_wp2
      go_ret
      have e1 := D.out.2.1
      rw [List.take_of_length_le (by omega)] at e1
      obtain ⟨e2, e3⟩ := partsP_list HN.out.1 n
      rw [e1] at e2 e3
      have hl2 := D.out.1.list
      rw [List.drop_eq_nil_of_le (by omega), List.append_nil] at hl2
      rw [← e3, ← e2]
      exact ⟨_, rfl, S', hl2, D.out.1.turn, D.out.1.row, D.out.1.own⟩

end Go.Proofs.YtjicoebcmfnooaaDoor
