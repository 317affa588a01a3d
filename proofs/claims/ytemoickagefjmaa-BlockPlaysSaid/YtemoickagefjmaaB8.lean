/-
  Bytes: slices of bytes that are read; texts and bytes turned into one another; bytes appended to a row of one's own.
-/
import Derived.Test.YtemoickagefjmaaLists
import Derived.Test.YtemoickagefjmaaStructs
import Derived.Lib.AppendStr
import Derived.Laws.IdiomStrings
namespace Go.Proofs.Ytemoickagefjmaa
open Go Go.RowKit
set_option linter.unusedSectionVars false
set_option linter.unusedSimpArgs false
set_option linter.unusedVariables false

abbrev Bs := List UInt8
def u8V (b : UInt8) : Value := .int .u8 b.toNat
def strB (l : Bs) : ByteArray := ⟨l.toArray⟩
def bsOf (s : ByteArray) : Bs := s.data.toList

theorem strB_bsOf (s : ByteArray) : strB (bsOf s) = s := rfl
theorem bsOf_strB (l : Bs) : bsOf (strB l) = l := rfl
theorem bsOf_len (s : ByteArray) : (bsOf s).length = s.size := rfl
theorem strB_size (l : Bs) : (strB l).size = l.length := rfl

/-- v is a slice of bytes: those of l. -/
def BSl (w : World) (v : Value) (l : Bs) : Prop :=
  (v = .slice none 0 0 ∧ l = []) ∨ ∃ b off cap, v = .slice (some ⟨b, off, none⟩) l.length cap ∧ l.length ≤ cap ∧ cap ≤ maxLen ∧ b < w.heap.size ∧ ∀ i u, l[i]? = some u → w.cell? ⟨b, off + i, none⟩ = some (u8V u)

theorem BSl.keep {w w' : World} {v : Value} {l : Bs} {S : Nat → Prop} (h : BSl w v l) (k : Keep w w' S) (hS : Clear v S) : BSl w' v l := by
  rcases h with h | ⟨b, off, cap, rfl, h1, h2, h3, h4⟩
  · exact .inl h
  · exact .inr ⟨b, off, cap, rfl, h1, h2, Nat.lt_of_lt_of_le h3 k.size, fun i u hi => k.cell (h4 i u hi) (hS b rfl)⟩

theorem BSl.aside {w w' : World} {v : Value} {l : Bs} (h : BSl w v l) (k : Keep w w' (fun _ => False)) : BSl w' v l := h.keep k (fun _ _ q => q)

theorem BSl.lt {w : World} {v : Value} {l : Bs} (h : BSl w v l) : ∀ b, v.ownBlock = some b → b < w.heap.size := by
  intro b q
  rcases h with ⟨rfl, _⟩ | ⟨b', off, cap, rfl, _, _, h3, _⟩
  · simp [Value.ownBlock] at q
  · simp [Value.ownBlock] at q; rw [← q]; exact h3

theorem BSl.val {w : World} {v : Value} {l : Bs} (h : BSl w v l) : ∃ a cap, v = .slice a l.length cap ∧ l.length ≤ cap ∧ cap ≤ maxLen := by
  rcases h with ⟨rfl, rfl⟩ | ⟨b, off, cap, rfl, h1, h2, _⟩
  · exact ⟨none, 0, rfl, Nat.le_refl _, Nat.zero_le _⟩
  · exact ⟨_, _, rfl, h1, h2⟩

theorem BSl.list {w : World} {v : Value} {l : Bs} (h : BSl w v l) : ListIn w v (l.map u8V) := by
  rcases h with ⟨rfl, rfl⟩ | ⟨b, off, cap, rfl, h1, h2, h3, h4⟩
  · exact ⟨none, 0, rfl, .inl rfl⟩
  · refine ⟨_, cap, by rw [List.length_map], .inr ⟨b, off, rfl, h3, fun i u hi => ?_⟩⟩
    rw [List.getElem?_map] at hi
    cases hx : l[i]? with
    | none => rw [hx] at hi; simp at hi
    | some x => rw [hx] at hi; simp at hi; rw [← hi]; exact h4 i x hx

theorem BSl.some {w : World} {a : Option Addr} {m cap : Nat} {l : Bs} (h : BSl w (.slice a m cap) l) (h0 : 0 < l.length) : ∃ b off, a = some ⟨b, off, none⟩ ∧ b < w.heap.size ∧ ∀ i u, l[i]? = some u → w.cell? ⟨b, off + i, none⟩ = some (u8V u) := by
  rcases h with ⟨_, rfl⟩ | ⟨b, off, c, e, _, _, h3, h4⟩
  · simp at h0
  · cases e; exact ⟨b, off, rfl, h3, h4⟩

theorem BSl.nil (w : World) : BSl w (.slice none 0 0) [] := .inl ⟨rfl, rfl⟩

/-- A part of it; where nothing is left behind, Go keeps the address. -/
theorem BSl.part {w : World} {b off cap m : Nat} {l : Bs} (h : BSl w (.slice (.some ⟨b, off, none⟩) m cap) l) {i n : Nat} (hi : i + n ≤ l.length) {off' : Nat} (ho : off' = off + i ∨ n = 0) : BSl w (.slice (.some ⟨b, off', none⟩) n (cap - i)) ((l.drop i).take n) := by
  rcases h with ⟨e, _⟩ | ⟨b', o', c', e, h1, h2, h3, h4⟩
  · cases e
  · cases e
    have hl : ((l.drop i).take n).length = n := by rw [List.length_take, List.length_drop]; omega
    refine .inr ⟨b, off', cap - i, by rw [hl], by omega, by omega, h3, fun j u hj => ?_⟩
    rcases ho with rfl | rfl
    · rw [List.getElem?_take] at hj
      split at hj
      · rw [List.getElem?_drop] at hj
        rw [Nat.add_assoc]
        exact h4 _ u hj
      · simp at hj
    · simp at hj

theorem BSl.tail {w : World} {b off cap m : Nat} {l : Bs} (h : BSl w (.slice (.some ⟨b, off, none⟩) m cap) l) {i : Nat} (hi : i ≤ l.length) {off' : Nat} (ho : off' = off + i ∨ l.length = i) : BSl w (.slice (.some ⟨b, off', none⟩) (m - i) (cap - i)) (l.drop i) := by
  have hm : m = l.length := by
    rcases h with ⟨e, _⟩ | ⟨b', o', c', e, _⟩
    · cases e
    · cases e; rfl
  have := h.part (i := i) (n := l.length - i) (by omega) (off' := off') (ho.imp id (fun q => by omega))
  rw [List.take_of_length_le (by rw [List.length_drop]; exact Nat.le_refl _)] at this
  rw [hm]; exact this

/-- 'string(b)'. -/
theorem str_of {P : Program} {w : World} (src dst : TypeId) {e : TypeId} (hs : P.underlying src = .some (.slice e)) (he : P.underlying e = .some (.int .u8)) (hd : P.underlying dst = .some .string)
    {v : Value} {l : Bs} (h : BSl w v l) : (convert src dst v).run P w = .ok (.string (strB l)) w := by
  rcases h with ⟨rfl, rfl⟩ | ⟨b, off, cap, rfl, h1, h2, h3, h4⟩
  · exact run_convert_bytes_nil w src e hs he _ _ dst hd
  · refine run_convert_bytes_back w src dst e ⟨b, off, none⟩ cap l hs he hd (fun j hj => ?_)
    have ha : (Addr.add ⟨b, off, none⟩ j) = ⟨b, off + j, none⟩ := by
      unfold Addr.add
      split
      · rename_i h0; subst h0; rfl
      · rfl
    rw [ha]
    exact h4 j _ (List.getElem?_eq_getElem hj)

/-- '[]byte(s)': new bytes. -/
theorem bytes_of {P : Program} {w : World} (src dst : TypeId) {e : TypeId} (hs : P.underlying src = .some .string) (hd : P.underlying dst = .some (.slice e)) (he : P.underlying e = .some (.int .u8)) (s : ByteArray) (hl : s.size ≤ maxLen) :
    ∃ cap w', (convert src dst (.string s)).run P w = .ok (.slice (.some ⟨w.heap.size, 0, none⟩) s.size cap) w' ∧ BSl w' (.slice (.some ⟨w.heap.size, 0, none⟩) s.size cap) (bsOf s) ∧ Keep w w' (fun _ => False) := by
  have h := run_bytes_of_string (P := P) w src dst e s hs hd he
  have hk : Keep w (w.drew.alloc (.cells (bytesRow s (grownCap w s.size 0 e)) e ((bytesRow s (grownCap w s.size 0 e)).size, (bytesRow s (grownCap w s.size 0 e)).size + 1))) (fun _ => False) := (Keep.drew w _).trans (Keep.alloc _ _ (fun _ => False)) (fun _ q => q.elim)
  refine ⟨_, _, h, .inr ⟨w.heap.size, 0, _, by rw [bsOf_len], by rw [bsOf_len]; exact grownCap_ge _ _ _ _, grownCap_le_maxLen _ _ _ _ hl, ?_, fun i u hi => ?_⟩, hk⟩
  · show w.heap.size < (w.heap.push _).size
    rw [Array.size_push]; omega
  · have hc := World.cell?_alloc_mark w.drew (bytesRow s (grownCap w s.size 0 e)) e ((bytesRow s (grownCap w s.size 0 e)).size, (bytesRow s (grownCap w s.size 0 e)).size + 1) i
    have hz : w.drew.heap.size = w.heap.size := rfl
    rw [hz] at hc
    rw [Nat.zero_add, hc]
    have hlt : i < s.data.size := by
      have := (List.getElem?_eq_some_iff.1 hi).1
      simpa [bsOf] using this
    rw [bytesRow_at s _ i hlt]
    have := (List.getElem?_eq_some_iff.1 hi).2
    rw [← this]
    simp [bsOf, u8V]

section
variable {P : Program} {w : World} {ops : Array Oper} {rest : List Oper} {o : Oper} {a : Act} {Q : Exit → Act → World → Prop}

theorem law_bytes_of (hg : o.guard = none) (src dst : TypeId) (x : Operand) (hop : o.op = .convert src dst x) {e : TypeId} (hs : P.underlying src = .some .string) (hd : P.underlying dst = .some (.slice e)) (he : P.underlying e = .some (.int .u8))
    (s : ByteArray) (hx : a.eval x = .string s) (hl : s.size ≤ maxLen)
    (hK : ∀ cap w', BSl w' (.slice (.some ⟨w.heap.size, 0, none⟩) s.size cap) (bsOf s) → Keep w w' (fun _ => False) → wpList P ops Q rest (a.put o.dst (.slice (.some ⟨w.heap.size, 0, none⟩) s.size cap)) w') : wpList P ops Q (o :: rest) a w := by
  refine wpList_plain hg fun K' hK' => ?_
  obtain ⟨cap, w', hrun, h1, h2⟩ := bytes_of (P := P) (w := w) src dst hs hd he s hl
  unfold Oper.wp
  simp [execOp, hop, hx, hrun, Result.andThen]
  exact hK' _ _ (hK cap w' h1 h2)

/-- 'append(b, s...)', s a text. -/
theorem wp_append_str {K : Act → World → Prop} (sl x : Operand) (t u : TypeId) (ho : o.op = .call { callee := .builtin .append, args := #[sl, x], argTypes := #[t, u] })
    {e : TypeId} {i : TypeInfo} (ht : P.underlying t = .some (.slice e)) (hu : P.underlying u = .some .string) (hi : P.info? e = .some i) (hz : i.zero = .some (.int .u8 0)) (hsize : i.size = 1) (hby : i.bytes = 1)
    {v : Value} {n : Nat} {xs : List Value} (hs : a.eval sl = v) (hown : w.ownsRow 0 e 1 v n xs) {s : ByteArray} (hx : a.eval x = .string s) (h63 : n + s.size ≤ 1099511627776)
    (hK : ∀ sa' cap' w', w'.ownsRow 0 e 1 (.slice sa' (n + s.size) cap') (n + s.size) (xs ++ (bsOf s).map u8V) → Keep w w' (fun b => some b = v.ownBlock) → (∀ b, (Value.slice sa' (n + s.size) cap').ownBlock = .some b → v.ownBlock = .some b ∨ w.heap.size ≤ b) → K (a.put o.dst (.slice sa' (n + s.size) cap')) w') : Oper.wp P o a w K Q := by
  obtain ⟨v', w', hr, h2, h3, h4⟩ := Lib.run_append_own_string (P := P) w 0 t u o.type e i ht hu hi hz hsize hby v n xs hown s (by unfold maxLen; omega) (by omega) (Nat.zero_le _)
  obtain ⟨sa', cap', rfl, _⟩ := rows_val2 h2
  unfold Oper.wp execOp
  simp only [ho, resolve, invoke, builtin, Sem.run_bind, Sem.run_pure, Result.andThen_ok, List.map_toArray, List.map_cons, List.map_nil, hs, hx, hr]
  refine hK sa' cap' w' h2 (Keep.grown h3) (fun b q => ?_)
  by_cases hb : b < w.heap.size
  · left
    have hxl : xs.length = n := by simpa using hown.1
    rcases hown.2 with ⟨rfl, rfl⟩ | ⟨g, cap, cur, rfl, hbg, hg, hnc, hcm, hcs, htake⟩
    · exfalso
      have hx0 : xs = [] := List.eq_nil_of_length_eq_zero hxl
      by_cases hm : s.size = 0
      · have := h4.2 ⟨rfl, hm⟩
        rw [this] at q
        simp [Value.ownBlock] at q
      · have hr' := run_append_nil_string (P := P) w t u o.type e i (.int .u8 0) ht hu hi hz s (by omega) (by omega) (by rw [hby]; omega)
        rw [hr'] at hr
        simp only [Result.ok.injEq, Value.slice.injEq] at hr
        rw [← hr.1.1] at q
        simp [Value.ownBlock] at q
        omega
    · by_cases hroom : n + s.size ≤ cap
      · have hr' := Lib.run_append_room_string (P := P) w t u o.type e i ht hu hi hsize g n cap cur hg s hroom (by simp at hcs; omega)
        rw [hr'] at hr
        simp only [Result.ok.injEq, Value.slice.injEq] at hr
        rw [← hr.1.1] at q
        exact q
      · exfalso
        have holds : ∀ j u, xs[j]? = .some u → w.cell? ((⟨g, 0, none⟩ : Addr).add j) = .some u := World.ownsRow.cells (g := g) hown rfl
        have hr' := Lib.run_append_grow_string (P := P) w t u o.type e i (.int .u8 0) ht hu hi hz ⟨g, 0, none⟩ n cap xs (by rw [hsize]; simpa using hxl) holds s (by omega) (by omega) (by rw [hby]; exact growslice_fits (by omega) (by omega))
        rw [hr'] at hr
        simp only [Result.ok.injEq, Value.slice.injEq] at hr
        rw [← hr.1.1] at q
        simp [Value.ownBlock] at q
        omega
  · right; omega

theorem law_append_str (hg : o.guard = none) (sl x : Operand) (t u : TypeId) (ho : o.op = .call { callee := .builtin .append, args := #[sl, x], argTypes := #[t, u] })
    {e : TypeId} {i : TypeInfo} (ht : P.underlying t = .some (.slice e)) (hu : P.underlying u = .some .string) (hi : P.info? e = .some i) (hz : i.zero = .some (.int .u8 0)) (hsize : i.size = 1) (hby : i.bytes = 1)
    {v : Value} {n : Nat} {xs : List Value} (hs : a.eval sl = v) (hown : w.ownsRow 0 e 1 v n xs) {s : ByteArray} (hx : a.eval x = .string s) (h63 : n + s.size ≤ 1099511627776)
    (hK : ∀ sa' cap' w', w'.ownsRow 0 e 1 (.slice sa' (n + s.size) cap') (n + s.size) (xs ++ (bsOf s).map u8V) → Keep w w' (fun b => some b = v.ownBlock) → (∀ b, (Value.slice sa' (n + s.size) cap').ownBlock = .some b → v.ownBlock = .some b ∨ w.heap.size ≤ b) → wpList P ops Q rest (a.put o.dst (.slice sa' (n + s.size) cap')) w') : wpList P ops Q (o :: rest) a w := by
  refine wpList_plain hg fun K hK' => ?_
  exact wp_append_str sl x t u ho ht hu hi hz hsize hby hs hown hx h63 (fun sa' cap' w' h1 h2 h3 => hK' _ _ (hK sa' cap' w' h1 h2 h3))
end

end Go.Proofs.Ytemoickagefjmaa
