/-
  Rows of a call's own whose elements have several cells: append, and what is read of them.
-/
import Derived.Test.YtnjfcedkfobbcaaGreatLaws
import Derived.Maps.AppendAt
import Derived.Deep.RegionHeld3
namespace Go.Proofs.YtnjfcedkfobbcaaGreat
open Go Go.RowKit
set_option linter.unusedSectionVars false
set_option linter.unusedSimpArgs false
set_option linter.unusedVariables false

section
variable {P : Program} {w : World} {ops : Array Oper} {rest : List Oper} {o : Oper} {a : Act} {Q : Exit → Act → World → Prop}

/-- 'append(s, x...)' onto a row of one's own; an element is of sz cells. -/
theorem wp_append_rowB {K : Act → World → Prop} (s x : Operand) (t : TypeId) (ho : o.op = .call { callee := .builtin .append, args := #[s, x], argTypes := #[t, t] })
    {e : TypeId} {i : TypeInfo} {z : Value} {sz : Nat} (ht : P.underlying t = some (.slice e)) (hi : P.info? e = some i) (hz : i.zero = some z) (hsize : i.size = sz) (hzs : z.cells.size = sz) (hsz : 0 < sz)
    {v : Value} {n : Nat} {xs : List Value} (hs : a.eval s = v) (hown : w.ownsRow 0 e sz v n xs) {sa : Option Addr} {m c : Nat} (news : List Value) (hx : a.eval x = .slice sa m c) (hl : news.length = m * sz)
    (hnews : m = 0 ∨ ∃ ad, sa = some ad ∧ ∀ j u, news[j]? = some u → w.cell? (ad.add j) = some u) (h1 : ∀ u ∈ news, u.oneCell' = true) (h63 : n + m ≤ 1099511627776) (hby : (n + m) * i.bytes ≤ 1099511627776 * 64)
    (hK : ∀ sa' cap' w', w'.ownsRow 0 e sz (.slice sa' (n + m) cap') (n + m) (xs ++ news) → Keep w w' (fun b => some b = v.ownBlock) → (∀ b, (Value.slice sa' (n + m) cap').ownBlock = some b → v.ownBlock = some b ∨ b = w.heap.size) → K (a.put o.dst (.slice sa' (n + m) cap')) w') : Oper.wp P o a w K Q := by
  by_cases hm : m = 0
  · subst hm
    have hnil : news = [] := List.length_eq_zero_iff.1 (by simpa using hl)
    subst hnil
    have hu : (underlying t).run P w = .ok (.slice e) w := by simp [underlying, program, Sem.run, ht]
    have hti : (typeInfo e).run P w = .ok i w := by simp [typeInfo, program, Sem.run, hi]
    have hso : (sizeOf e).run P w = .ok sz w := by simp [sizeOf, Sem.run_bind, hti, hsize]
    have hown' := hown
    obtain ⟨h1, h2⟩ := hown
    have hv : ∃ bs sc, v = .slice bs n sc ∧ n ≤ sc := by
      rcases h2 with ⟨rfl, rfl⟩ | ⟨g, cap, cur, rfl, _, _, h, _⟩
      · exact ⟨_, _, rfl, Nat.le_refl _⟩
      · exact ⟨_, _, rfl, h⟩
    obtain ⟨bs, sc, rfl, hnc⟩ := hv
    have hfc : (Builtin.firstCells sz 0 (.slice sa 0 c)).run P w = .ok #[] w := by
      cases sa <;> simp [Builtin.firstCells, loadCells, loadCellsFrom]
    have hrun : ∀ ty, (Builtin.append_ #[t, t] ty #[.slice bs n sc, .slice sa 0 c]).run P w = .ok (.slice bs n sc) w := by
      intro ty
      unfold Builtin.append_
      simp only [List.getElem?_toArray, List.getElem?_cons_zero, List.getElem?_cons_succ, Sem.run_bind, hu, Result.andThen_ok, Sem.run_pure, hso, Builtin.lenOf, Nat.add_zero]
      simp only [Bool.not_false, if_true, Bool.false_eq_true, if_false, Sem.run_bind, Sem.run_pure, Result.andThen_ok, Builtin.lenOf, Nat.add_zero, if_pos hnc, hfc]
      cases bs with
      | none => rfl
      | some ad => simp [storeCells]
    unfold Oper.wp
    simp [execOp, ho, resolve, invoke, builtin, hs, hx, hrun, Result.andThen]
    exact hK _ _ _ (by simpa using hown') (Keep.refl _ _) (fun b q => .inl q)
  · obtain ⟨ad, rfl, hc⟩ := hnews.resolve_left hm
    obtain ⟨v', w', hr, h2, h3, _, h5⟩ := run_append_own_at (P := P) w 0 t o.type e i z sz i.bytes ht hi hz hsize rfl hzs hsz v n xs hown ad m c news hl hc h1 (by unfold maxLen; omega) (by omega) (Nat.zero_le _)
    obtain ⟨sa', cap', rfl, _⟩ : ∃ a cap, v' = .slice a (n + m) cap ∧ True := by
      rcases h2.2 with ⟨rfl, h⟩ | ⟨g, cap, cur, rfl, _⟩
      · rw [h]; exact ⟨_, _, rfl, trivial⟩
      · exact ⟨_, _, rfl, trivial⟩
    unfold Oper.wp execOp
    simp only [ho, resolve, invoke, builtin, Sem.run_bind, Sem.run_pure, Result.andThen_ok, List.map_toArray, List.map_cons, List.map_nil, hs, hx, hr]
    exact hK _ _ w' h2 (Keep.grown h3) (fun b q => by
      rcases h5 with h5 | h5
      · exact .inl (h5 ▸ q)
      · rw [h5] at q; simp at q; exact .inr q.symm)

theorem wp_append_row {K : Act → World → Prop} (s x : Operand) (t : TypeId) (ho : o.op = .call { callee := .builtin .append, args := #[s, x], argTypes := #[t, t] })
    {e : TypeId} {i : TypeInfo} {z : Value} {sz : Nat} (ht : P.underlying t = some (.slice e)) (hi : P.info? e = some i) (hz : i.zero = some z) (hsize : i.size = sz) (hby : i.bytes ≤ 64) (hzs : z.cells.size = sz) (hsz : 0 < sz)
    {v : Value} {n : Nat} {xs : List Value} (hs : a.eval s = v) (hown : w.ownsRow 0 e sz v n xs) {sa : Option Addr} {m c : Nat} (news : List Value) (hx : a.eval x = .slice sa m c) (hl : news.length = m * sz)
    (hnews : m = 0 ∨ ∃ ad, sa = some ad ∧ ∀ j u, news[j]? = some u → w.cell? (ad.add j) = some u) (h1 : ∀ u ∈ news, u.oneCell' = true) (h63 : n + m ≤ 1099511627776)
    (hK : ∀ sa' cap' w', w'.ownsRow 0 e sz (.slice sa' (n + m) cap') (n + m) (xs ++ news) → Keep w w' (fun b => some b = v.ownBlock) → (∀ b, (Value.slice sa' (n + m) cap').ownBlock = some b → v.ownBlock = some b ∨ b = w.heap.size) → K (a.put o.dst (.slice sa' (n + m) cap')) w') : Oper.wp P o a w K Q :=
  wp_append_rowB s x t ho ht hi hz hsize hzs hsz hs hown news hx hl hnews h1 h63 (Nat.mul_le_mul h63 hby) hK

theorem law_append_row (hg : o.guard = none) (s x : Operand) (t : TypeId) (ho : o.op = .call { callee := .builtin .append, args := #[s, x], argTypes := #[t, t] })
    {e : TypeId} {i : TypeInfo} {z : Value} {sz : Nat} (ht : P.underlying t = some (.slice e)) (hi : P.info? e = some i) (hz : i.zero = some z) (hsize : i.size = sz) (hby : i.bytes ≤ 64) (hzs : z.cells.size = sz) (hsz : 0 < sz)
    {v : Value} {n : Nat} {xs : List Value} (hs : a.eval s = v) (hown : w.ownsRow 0 e sz v n xs) {sa : Option Addr} {m c : Nat} (news : List Value) (hx : a.eval x = .slice sa m c) (hl : news.length = m * sz)
    (hnews : m = 0 ∨ ∃ ad, sa = some ad ∧ ∀ j u, news[j]? = some u → w.cell? (ad.add j) = some u) (h1 : ∀ u ∈ news, u.oneCell' = true) (h63 : n + m ≤ 1099511627776)
    (hK : ∀ sa' cap' w', w'.ownsRow 0 e sz (.slice sa' (n + m) cap') (n + m) (xs ++ news) → Keep w w' (fun b => some b = v.ownBlock) → (∀ b, (Value.slice sa' (n + m) cap').ownBlock = some b → v.ownBlock = some b ∨ b = w.heap.size) → wpList P ops Q rest (a.put o.dst (.slice sa' (n + m) cap')) w') : wpList P ops Q (o :: rest) a w :=
  wpList_plain hg fun _ hK' => wp_append_row s x t ho ht hi hz hsize hby hzs hsz hs hown news hx hl hnews h1 h63 fun sa' cap' w' h2 h3 h4 => hK' _ _ (hK sa' cap' w' h2 h3 h4)

/-- The same at a step of a region that draws its order. -/
theorem step_append_row {K : Act → World → Prop} {E : Prop} (hg : o.guard = none) (s x : Operand) (t : TypeId) (ho : o.op = .call { callee := .builtin .append, args := #[s, x], argTypes := #[t, t] })
    {e : TypeId} {i : TypeInfo} {z : Value} {sz : Nat} (ht : P.underlying t = some (.slice e)) (hi : P.info? e = some i) (hz : i.zero = some z) (hsize : i.size = sz) (hby : i.bytes ≤ 64) (hzs : z.cells.size = sz) (hsz : 0 < sz)
    {v : Value} {n : Nat} {xs : List Value} (hs : a.eval s = v) (hown : w.ownsRow 0 e sz v n xs) {sa : Option Addr} {m c : Nat} (news : List Value) (hx : a.eval x = .slice sa m c) (hl : news.length = m * sz)
    (hnews : m = 0 ∨ ∃ ad, sa = some ad ∧ ∀ j u, news[j]? = some u → w.cell? (ad.add j) = some u) (h1 : ∀ u ∈ news, u.oneCell' = true) (h63 : n + m ≤ 1099511627776) (N : Nat) (hN : n + m = N) (ys : List Value) (hys : xs ++ news = ys)
    (hK : ∀ sa' cap' w', w'.ownsRow 0 e sz (.slice sa' N cap') N ys → Keep w w' (fun b => some b = v.ownBlock) → (∀ b, (Value.slice sa' N cap').ownBlock = some b → v.ownBlock = some b ∨ b = w.heap.size) → K (a.put o.dst (.slice sa' N cap')) w') :
    if Region.wanted o (yielded ops a.tmps) = true then Oper.wp P o a w K Q else E := by
  subst hN hys
  have hw : Region.wanted o (yielded ops a.tmps) = true := by simp [Region.wanted, hg]
  rw [if_pos hw]
  exact wp_append_row s x t ho ht hi hz hsize hby hzs hsz hs hown news hx hl hnews h1 h63 hK

end

/-- A new block's cells, read behind its address. -/
theorem cells_new (w : World) (xs : List Value) (t : TypeId) : ∀ j u, xs[j]? = some u → (w.alloc (.cells xs.toArray t (0, 0))).cell? ((⟨w.heap.size, 0, none⟩ : Addr).add j) = some u := by
  intro j u hj
  have e : ((⟨w.heap.size, 0, none⟩ : Addr).add j) = ⟨w.heap.size, j, none⟩ := by
    unfold Addr.add
    split
    · rename_i h; rw [h]
    · simp
  rw [e, cell_blk (heap_alloc_eq _ _)]
  simpa using hj

theorem rows_keep {w w' : World} {e : TypeId} {sz : Nat} {v : Value} {n : Nat} {xs : List Value} {S : Nat → Prop} (h : w.ownsRow 0 e sz v n xs) (k : Keep w w' S) (hS : ∀ b, v.ownBlock = some b → ¬ S b) : w'.ownsRow 0 e sz v n xs :=
  own_keep h k (fun b q => hS b q.symm)

theorem rows_val {w : World} {e : TypeId} {sz : Nat} {v : Value} {n : Nat} {xs : List Value} (h : w.ownsRow 0 e sz v n xs) : (v = .slice none 0 0 ∧ n = 0) ∨ ∃ g cap, v = .slice (some ⟨g, 0, none⟩) n cap ∧ n ≤ cap ∧ v.ownBlock = some g ∧ g < w.heap.size := by
  rcases h.2 with h | ⟨g, cap, cur, rfl, _, hb, h, _⟩
  · exact .inl h
  · exact .inr ⟨g, cap, rfl, h, rfl, lt_of_blk hb⟩

theorem rows_val2 {w : World} {e : TypeId} {sz : Nat} {v : Value} {n : Nat} {xs : List Value} (h : w.ownsRow 0 e sz v n xs) : ∃ a cap, v = .slice a n cap ∧ n ≤ cap := by
  rcases rows_val h with ⟨rfl, rfl⟩ | ⟨g, cap, rfl, h, _⟩
  · exact ⟨_, _, rfl, Nat.le_refl _⟩
  · exact ⟨_, _, rfl, h⟩

theorem rows_some {w : World} {e : TypeId} {sz : Nat} {a : Option Addr} {m cap n : Nat} {xs : List Value} (h : w.ownsRow 0 e sz (.slice a m cap) n xs) (hn : 0 < n) : ∃ g, a = some ⟨g, 0, none⟩ ∧ m = n ∧ n ≤ cap ∧ g < w.heap.size := by
  rcases h.2 with ⟨h1, rfl⟩ | ⟨g, c, cur, h1, h2, h3, h4, _⟩
  · omega
  · simp only [Value.slice.injEq] at h1
    obtain ⟨h5, h6, rfl⟩ := h1
    exact ⟨g, h5, h6, h4, lt_of_blk h3⟩

theorem rows_cell {w : World} {e : TypeId} {sz g cap n m : Nat} {xs : List Value} (h : w.ownsRow 0 e sz (.slice (some ⟨g, 0, none⟩) m cap) n xs) {j : Nat} {u : Value} (hj : xs[j]? = some u) :
    w.cell? ⟨g, j, none⟩ = some u ∧ w.frozen? ⟨g, j, none⟩ = false := by
  obtain ⟨h0, h⟩ := h
  rcases h with ⟨h1, _⟩ | ⟨g', c, cur, h1, h2, h3, h4, h5, h6, h7⟩
  · cases h1
  · simp only [Value.slice.injEq, Option.some.injEq, Addr.mk.injEq] at h1
    obtain ⟨⟨rfl, _⟩, _⟩ := h1
    have hl : j < xs.length := (List.getElem?_eq_some_iff.1 hj).1
    refine ⟨?_, free_blk h3 _⟩
    rw [cell_blk h3, ← hj, ← h7, List.getElem?_take_of_lt (by omega)]
    simp

theorem rows_set {w : World} {e : TypeId} {sz g cap n m : Nat} {xs : List Value} (h : w.ownsRow 0 e sz (.slice (some ⟨g, 0, none⟩) m cap) n xs) (j : Nat) (u : Value) :
    (w.setCell ⟨g, j, none⟩ u).ownsRow 0 e sz (.slice (some ⟨g, 0, none⟩) m cap) n (xs.set j u) := by
  obtain ⟨h0, h⟩ := h
  refine ⟨by simpa using h0, .inr ?_⟩
  rcases h with ⟨h1, _⟩ | ⟨g', c, cur, h1, h2, h3, h4, h5, h6, h7⟩
  · cases h1
  · have h1' := h1
    simp only [Value.slice.injEq, Option.some.injEq, Addr.mk.injEq] at h1
    obtain ⟨⟨rfl, _⟩, _⟩ := h1
    refine ⟨g, c, cur.setIfInBounds j u, h1', h2, heap_setCell_eq u h3, h4, h5, by simpa using h6, ?_⟩
    rw [← h7, Array.toList_setIfInBounds, List.take_set]

theorem rows_len {w : World} {e : TypeId} {sz : Nat} {v : Value} {n : Nat} {xs : List Value} (h : w.ownsRow 0 e sz v n xs) : xs.length = n * sz := h.1

theorem rows_empty {w : World} {e : TypeId} {sz g : Nat} (h : w.heap[g]? = some (.cells #[] e (0, 0))) : w.ownsRow 0 e sz (.slice (some ⟨g, 0, none⟩) 0 0) 0 [] := ⟨by simp, .inr ⟨g, 0, #[], rfl, Nat.zero_le _, h, Nat.le_refl _, Nat.zero_le _, by simp, by simp⟩⟩

theorem rows_read {w : World} {e : TypeId} {sz g cap n m : Nat} {xs : List Value} (h : w.ownsRow 0 e sz (.slice (some ⟨g, 0, none⟩) m cap) n xs) (d : Nat) {ys : List Value} (hy : ∀ j u, ys[j]? = some u → xs[d + j]? = some u) : ∀ j u, ys[j]? = some u → w.cell? ((⟨g, d, none⟩ : Addr).add j) = some u := by
  intro j u hj
  have e : ((⟨g, d, none⟩ : Addr).add j) = ⟨g, d + j, none⟩ := by
    unfold Addr.add
    split
    · rename_i h; rw [h]; rfl
    · rfl
  rw [e]
  exact (rows_cell h (hy j u hj)).1

theorem rows_nil (w : World) (e : TypeId) (sz : Nat) : w.ownsRow 0 e sz (.slice none 0 0) 0 [] := ⟨by simp, .inl ⟨rfl, rfl⟩⟩

/-- A list of records as a row of cells. -/
def flat {α : Type} (f : α → List Value) (l : List α) : List Value := l.flatMap f

theorem flat_len {α : Type} (f : α → List Value) (sz : Nat) (hf : ∀ x, (f x).length = sz) (l : List α) : (flat f l).length = l.length * sz := by
  induction l with
  | nil => simp [flat]
  | cons x r ih => simp [flat] at ih ⊢; rw [ih, hf, Nat.add_mul]; omega

theorem flat_append {α : Type} (f : α → List Value) (l m : List α) : flat f (l ++ m) = flat f l ++ flat f m := by simp [flat]

theorem flat_get {α : Type} (f : α → List Value) (sz : Nat) (hf : ∀ x, (f x).length = sz) {l : List α} {i : Nat} {x : α} (h : l[i]? = some x) {j : Nat} (hj : j < sz) : (flat f l)[i * sz + j]? = (f x)[j]? := by
  induction l generalizing i with
  | nil => simp at h
  | cons y r ih =>
    cases i with
    | zero =>
      simp at h; subst h
      simp only [flat, List.flatMap_cons, Nat.zero_mul, Nat.zero_add]
      rw [List.getElem?_append_left (by rw [hf]; exact hj)]
    | succ i =>
      simp only [List.getElem?_cons_succ] at h
      simp only [flat, List.flatMap_cons]
      rw [List.getElem?_append_right (by rw [hf, Nat.add_mul]; omega), hf]
      have := ih h
      simp only [flat] at this
      rw [show (i + 1) * sz + j - sz = i * sz + j by rw [Nat.add_mul]; omega, this]

theorem flat_set {α : Type} (f : α → List Value) (sz : Nat) (hf : ∀ x, (f x).length = sz) {l : List α} {i : Nat} {x y : α} (h : l[i]? = some x) {j : Nat} (hj : j < sz) {u : Value} (hy : (f x).set j u = f y) : (flat f l).set (i * sz + j) u = flat f (l.set i y) := by
  induction l generalizing i with
  | nil => simp at h
  | cons z r ih =>
    cases i with
    | zero =>
      simp at h; subst h
      simp only [flat, List.flatMap_cons, Nat.zero_mul, Nat.zero_add, List.set_cons_zero]
      rw [List.set_append_left _ _ (by rw [hf]; exact hj), hy]
    | succ i =>
      simp only [List.getElem?_cons_succ] at h
      simp only [flat, List.flatMap_cons, List.set_cons_succ]
      rw [List.set_append_right _ _ (by rw [hf, Nat.add_mul]; omega), hf]
      have := ih h
      simp only [flat] at this
      rw [show (i + 1) * sz + j - sz = i * sz + j by rw [Nat.add_mul]; omega, this]

theorem flat_drop {α : Type} (f : α → List Value) (sz : Nat) (hf : ∀ x, (f x).length = sz) (l : List α) (k : Nat) : flat f (l.drop k) = (flat f l).drop (k * sz) := by
  induction k generalizing l with
  | zero => simp
  | succ k ih =>
    cases l with
    | nil => simp [flat]
    | cons x r =>
      rw [List.drop_succ_cons, ih]
      simp only [flat, List.flatMap_cons]
      have e : List.drop ((k + 1) * sz) (f x) = [] := List.drop_eq_nil_of_le (by rw [hf, Nat.add_mul]; omega)
      rw [List.drop_append, hf, show (k + 1) * sz - sz = k * sz by rw [Nat.add_mul]; omega, e, List.nil_append]

theorem flat_take {α : Type} (f : α → List Value) (sz : Nat) (hf : ∀ x, (f x).length = sz) (l : List α) (k : Nat) : flat f (l.take k) = (flat f l).take (k * sz) := by
  induction k generalizing l with
  | zero => simp [flat]
  | succ k ih =>
    cases l with
    | nil => simp [flat]
    | cons x r =>
      simp only [List.take_succ_cons]
      have := ih r
      simp only [flat, List.flatMap_cons] at this ⊢
      have e : List.take ((k + 1) * sz) (f x) = f x := List.take_of_length_le (by rw [hf, Nat.add_mul]; omega)
      rw [this, List.take_append, hf, show (k + 1) * sz - sz = k * sz by rw [Nat.add_mul]; omega, e]

end Go.Proofs.YtnjfcedkfobbcaaGreat
