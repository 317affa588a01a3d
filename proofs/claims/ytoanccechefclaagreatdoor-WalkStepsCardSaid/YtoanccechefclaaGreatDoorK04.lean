/-
  Parts of the walk's proof: Fresh, Heaps, Lists, Ranges, MapsIn. (joined by pack.py)
-/
import Derived.Maps.AppendAt
import Derived.Deep.RegionHeld3
import Derived.Deep.QuietTactic
import Derived.RangeFuncNested
import Derived.RangeFuncBound
import Derived.RangeFuncCalls
import Derived.RangeFuncLeaves
import Derived.RangeFuncWrites
import Derived.Shelf.Abstract
import Derived.Shelf.RegionOpen
import Derived.WalkKit
import Derived.OwnWalkIn
import Derived.TacticsInMore
import Derived.LoopNIn
import Derived.LoopIn
import Derived.Sort.LoopGhostIn
import Derived.Test.YtoanccechefclaaGreatDoorK01
set_option linter.unusedSectionVars false
set_option linter.unusedSimpArgs false
set_option linter.unusedVariables false
namespace Go.Proofs.YtoanccechefclaaGreatDoor
open Go Go.RowKit
section
variable {w w1 : World} {S : Nat → Prop}
theorem Keep.setNew (h : Keep w w1 S) (a : Addr) (v : Value) (hb : w.heap.size ≤ a.block) : Keep w (w1.setCell a v) S :=
  h.trans (Keep.setCell w1 a v) (fun b q => .inr (by have q' : b = a.block := q; omega))
theorem Keep.allocNew (h : Keep w w1 S) (o : Obj) : Keep w (w1.alloc o) S := h.trans (Keep.alloc w1 o (fun _ => False)) (fun _ q => q.elim)
theorem Keep.drewNew (h : Keep w w1 S) : Keep w w1.drew S := h.trans (Keep.drew w1 (fun _ => False)) (fun _ q => q.elim)
theorem Keep.aside {w2 : World} (h : Keep w w1 S) (k : Keep w1 w2 (fun _ => False)) : Keep w w2 S := h.trans k (fun _ q => q.elim)
theorem Keep.beside {w2 : World} {T : Nat → Prop} (h : Keep w w1 S) (k : Keep w1 w2 T) (hT : ∀ b, T b → w.heap.size ≤ b) : Keep w w2 S := h.trans k (fun b q => .inr (hT b q))
end
theorem boxes1 (w : World) (o1 : Obj) : Keep w (w.alloc o1) (fun _ => False) ∧ (w.alloc o1).heap[w.heap.size]? = some o1 ∧ (w.alloc o1).heap.size = w.heap.size + 1 :=
  ⟨Keep.alloc w o1 _, heap_alloc_eq w o1, by simp⟩
theorem boxes2 (w : World) (o1 o2 : Obj) : Keep w ((w.alloc o1).alloc o2) (fun _ => False) ∧ ((w.alloc o1).alloc o2).heap[w.heap.size]? = some o1 ∧ ((w.alloc o1).alloc o2).heap[w.heap.size + 1]? = some o2 ∧ ((w.alloc o1).alloc o2).heap.size = w.heap.size + 2 := by
  have k1 := Keep.alloc w o1 (fun _ => False)
  have g1 := heap_alloc_eq w o1
  have z1 : (w.alloc o1).heap.size = w.heap.size + 1 := by simp
  generalize w.alloc o1 = w1 at *
  have k2 := Keep.alloc w1 o2 (fun _ => False)
  have g2 := heap_alloc_eq w1 o2
  have z2 : (w1.alloc o2).heap.size = w1.heap.size + 1 := by simp
  rw [z1] at g2
  exact ⟨k1.trans k2 (fun _ q => q.elim), k2.get g1 (fun q => q), g2, by omega⟩
theorem boxes3 (w : World) (o1 o2 o3 : Obj) : Keep w (((w.alloc o1).alloc o2).alloc o3) (fun _ => False) ∧ (((w.alloc o1).alloc o2).alloc o3).heap[w.heap.size]? = some o1 ∧ (((w.alloc o1).alloc o2).alloc o3).heap[w.heap.size + 1]? = some o2 ∧ (((w.alloc o1).alloc o2).alloc o3).heap[w.heap.size + 1 + 1]? = some o3 ∧ (((w.alloc o1).alloc o2).alloc o3).heap.size = w.heap.size + 3 := by
  obtain ⟨k, g1, g2, z⟩ := boxes2 w o1 o2
  generalize (w.alloc o1).alloc o2 = w1 at *
  obtain ⟨k2, g3, z2⟩ := boxes1 w1 o3
  rw [z] at g3
  exact ⟨k.trans k2 (fun _ q => q.elim), k2.get g1 (fun q => q), k2.get g2 (fun q => q), g3, by omega⟩
theorem boxes4 (w : World) (o1 o2 o3 o4 : Obj) : Keep w ((((w.alloc o1).alloc o2).alloc o3).alloc o4) (fun _ => False) ∧ ((((w.alloc o1).alloc o2).alloc o3).alloc o4).heap[w.heap.size]? = some o1 ∧ ((((w.alloc o1).alloc o2).alloc o3).alloc o4).heap[w.heap.size + 1]? = some o2 ∧ ((((w.alloc o1).alloc o2).alloc o3).alloc o4).heap[w.heap.size + 1 + 1]? = some o3 ∧ ((((w.alloc o1).alloc o2).alloc o3).alloc o4).heap[w.heap.size + 1 + 1 + 1]? = some o4 ∧ ((((w.alloc o1).alloc o2).alloc o3).alloc o4).heap.size = w.heap.size + 4 := by
  obtain ⟨k, g1, g2, g3, z⟩ := boxes3 w o1 o2 o3
  generalize ((w.alloc o1).alloc o2).alloc o3 = w1 at *
  obtain ⟨k2, g4, z2⟩ := boxes1 w1 o4
  rw [z] at g4
  exact ⟨k.trans k2 (fun _ q => q.elim), k2.get g1 (fun q => q), k2.get g2 (fun q => q), k2.get g3 (fun q => q), g4, by omega⟩
end Go.Proofs.YtoanccechefclaaGreatDoor
namespace Go.Proofs.YtoanccechefclaaGreatDoor
open Go Go.RowKit
section
variable {P : Program} {w : World} {ops : Array Oper} {rest : List Oper} {o : Oper} {a : Act} {Q : Exit → Act → World → Prop}
theorem wp_append_rowB {K : Act → World → Prop} (s x : Operand) (t : TypeId) (ho : o.op = .call { callee := .builtin .append, args := #[s, x], argTypes := #[t, t] })
    {e : TypeId} {i : TypeInfo} {z : Value} {sz : Nat} (ht : P.underlying t = some (.slice e)) (hi : P.info? e = some i) (hz : i.zero = some z) (hsize : i.size = sz) (hzs : z.cells.size = sz) (hsz : 0 < sz)
    {v : Value} {n : Nat} {xs : List Value} (hs : a.eval s = v) (hown : w.ownsRow 0 e sz v n xs) {sa : Option Addr} {m c : Nat} (news : List Value) (hx : a.eval x = .slice sa m c) (hl : news.length = m * sz)
    (hnews : m = 0 ∨ ∃ ad, sa = some ad ∧ ∀ j u, news[j]? = some u → w.cell? (ad.add j) = some u) (h1 : ∀ u ∈ news, u.oneCell' = true) (h63 : n + m ≤ 1099511627776) (hby : (n + m) * i.bytes ≤ 1099511627776 * 64)
    (hK : ∀ sa' cap' w', w'.ownsRow 0 e sz (.slice sa' (n + m) cap') (n + m) (xs ++ news) → Keep w w' (fun b => some b = v.ownBlock) → (∀ b, (Value.slice sa' (n + m) cap').ownBlock = some b → v.ownBlock = some b ∨ b = w.heap.size) → K (a.put o.dst (.slice sa' (n + m) cap')) w') : Oper.wp P o a w K Q := by
  by_cases hm : m = 0
  · subst hm
    have hnil : news = [] := List.length_eq_zero_iff.1 (by simpa using hl)
    subst hnil
    have hu : (underlying t).run P w = .ok (.slice e) w := by simp [underlying, program, Sem.run, ht]
    have hti : (typeInfo e).run P w = .ok i w := by simp [typeInfo, program, Sem.run, hi]
    have hso : (sizeOf e).run P w = .ok sz w := by simp [sizeOf, Sem.run_bind, hti, hsize]
    have hown' := hown
    obtain ⟨h1, h2⟩ := hown
    have hv : ∃ bs sc, v = .slice bs n sc ∧ n ≤ sc := by
      rcases h2 with ⟨rfl, rfl⟩ | ⟨g, cap, cur, rfl, _, _, h, _⟩
      · exact ⟨_, _, rfl, Nat.le_refl _⟩
      · exact ⟨_, _, rfl, h⟩
    obtain ⟨bs, sc, rfl, hnc⟩ := hv
    have hfc : (Builtin.firstCells sz 0 (.slice sa 0 c)).run P w = .ok #[] w := by
      cases sa <;> simp [Builtin.firstCells, loadCells, loadCellsFrom]
    have hrun : ∀ ty, (Builtin.append_ #[t, t] ty #[.slice bs n sc, .slice sa 0 c]).run P w = .ok (.slice bs n sc) w := by
      intro ty
      unfold Builtin.append_
      simp only [List.getElem?_toArray, List.getElem?_cons_zero, List.getElem?_cons_succ, Sem.run_bind, hu, Result.andThen_ok, Sem.run_pure, hso, Builtin.lenOf, Nat.add_zero]
      simp only [Bool.not_false, if_true, Bool.false_eq_true, if_false, Sem.run_bind, Sem.run_pure, Result.andThen_ok, Builtin.lenOf, Nat.add_zero, if_pos hnc, hfc]
      cases bs with
      | none => rfl
      | some ad => simp [storeCells]
    unfold Oper.wp
    simp [execOp, ho, resolve, invoke, builtin, hs, hx, hrun, Result.andThen]
    exact hK _ _ _ (by simpa using hown') (Keep.refl _ _) (fun b q => .inl q)
  · obtain ⟨ad, rfl, hc⟩ := hnews.resolve_left hm
    obtain ⟨v', w', hr, h2, h3, _, h5⟩ := run_append_own_at (P := P) w 0 t o.type e i z sz i.bytes ht hi hz hsize rfl hzs hsz v n xs hown ad m c news hl hc h1 (by unfold maxLen; omega) (by omega) (Nat.zero_le _)
    obtain ⟨sa', cap', rfl, _⟩ : ∃ a cap, v' = .slice a (n + m) cap ∧ True := by
      rcases h2.2 with ⟨rfl, h⟩ | ⟨g, cap, cur, rfl, _⟩
      · rw [h]; exact ⟨_, _, rfl, trivial⟩
      · exact ⟨_, _, rfl, trivial⟩
    unfold Oper.wp execOp
    simp only [ho, resolve, invoke, builtin, Sem.run_bind, Sem.run_pure, Result.andThen_ok, List.map_toArray, List.map_cons, List.map_nil, hs, hx, hr]
    exact hK _ _ w' h2 (Keep.grown h3) (fun b q => by
      rcases h5 with h5 | h5
      · exact .inl (h5 ▸ q)
      · rw [h5] at q; simp at q; exact .inr q.symm)
theorem wp_append_row {K : Act → World → Prop} (s x : Operand) (t : TypeId) (ho : o.op = .call { callee := .builtin .append, args := #[s, x], argTypes := #[t, t] })
    {e : TypeId} {i : TypeInfo} {z : Value} {sz : Nat} (ht : P.underlying t = some (.slice e)) (hi : P.info? e = some i) (hz : i.zero = some z) (hsize : i.size = sz) (hby : i.bytes ≤ 64) (hzs : z.cells.size = sz) (hsz : 0 < sz)
    {v : Value} {n : Nat} {xs : List Value} (hs : a.eval s = v) (hown : w.ownsRow 0 e sz v n xs) {sa : Option Addr} {m c : Nat} (news : List Value) (hx : a.eval x = .slice sa m c) (hl : news.length = m * sz)
    (hnews : m = 0 ∨ ∃ ad, sa = some ad ∧ ∀ j u, news[j]? = some u → w.cell? (ad.add j) = some u) (h1 : ∀ u ∈ news, u.oneCell' = true) (h63 : n + m ≤ 1099511627776)
    (hK : ∀ sa' cap' w', w'.ownsRow 0 e sz (.slice sa' (n + m) cap') (n + m) (xs ++ news) → Keep w w' (fun b => some b = v.ownBlock) → (∀ b, (Value.slice sa' (n + m) cap').ownBlock = some b → v.ownBlock = some b ∨ b = w.heap.size) → K (a.put o.dst (.slice sa' (n + m) cap')) w') : Oper.wp P o a w K Q :=
  wp_append_rowB s x t ho ht hi hz hsize hzs hsz hs hown news hx hl hnews h1 h63 (Nat.mul_le_mul h63 hby) hK
theorem law_append_row (hg : o.guard = none) (s x : Operand) (t : TypeId) (ho : o.op = .call { callee := .builtin .append, args := #[s, x], argTypes := #[t, t] })
    {e : TypeId} {i : TypeInfo} {z : Value} {sz : Nat} (ht : P.underlying t = some (.slice e)) (hi : P.info? e = some i) (hz : i.zero = some z) (hsize : i.size = sz) (hby : i.bytes ≤ 64) (hzs : z.cells.size = sz) (hsz : 0 < sz)
    {v : Value} {n : Nat} {xs : List Value} (hs : a.eval s = v) (hown : w.ownsRow 0 e sz v n xs) {sa : Option Addr} {m c : Nat} (news : List Value) (hx : a.eval x = .slice sa m c) (hl : news.length = m * sz)
    (hnews : m = 0 ∨ ∃ ad, sa = some ad ∧ ∀ j u, news[j]? = some u → w.cell? (ad.add j) = some u) (h1 : ∀ u ∈ news, u.oneCell' = true) (h63 : n + m ≤ 1099511627776)
    (hK : ∀ sa' cap' w', w'.ownsRow 0 e sz (.slice sa' (n + m) cap') (n + m) (xs ++ news) → Keep w w' (fun b => some b = v.ownBlock) → (∀ b, (Value.slice sa' (n + m) cap').ownBlock = some b → v.ownBlock = some b ∨ b = w.heap.size) → wpList P ops Q rest (a.put o.dst (.slice sa' (n + m) cap')) w') : wpList P ops Q (o :: rest) a w :=
  wpList_plain hg fun _ hK' => wp_append_row s x t ho ht hi hz hsize hby hzs hsz hs hown news hx hl hnews h1 h63 fun sa' cap' w' h2 h3 h4 => hK' _ _ (hK sa' cap' w' h2 h3 h4)
theorem step_append_row {K : Act → World → Prop} {E : Prop} (hg : o.guard = none) (s x : Operand) (t : TypeId) (ho : o.op = .call { callee := .builtin .append, args := #[s, x], argTypes := #[t, t] })
    {e : TypeId} {i : TypeInfo} {z : Value} {sz : Nat} (ht : P.underlying t = some (.slice e)) (hi : P.info? e = some i) (hz : i.zero = some z) (hsize : i.size = sz) (hby : i.bytes ≤ 64) (hzs : z.cells.size = sz) (hsz : 0 < sz)
    {v : Value} {n : Nat} {xs : List Value} (hs : a.eval s = v) (hown : w.ownsRow 0 e sz v n xs) {sa : Option Addr} {m c : Nat} (news : List Value) (hx : a.eval x = .slice sa m c) (hl : news.length = m * sz)
    (hnews : m = 0 ∨ ∃ ad, sa = some ad ∧ ∀ j u, news[j]? = some u → w.cell? (ad.add j) = some u) (h1 : ∀ u ∈ news, u.oneCell' = true) (h63 : n + m ≤ 1099511627776) (N : Nat) (hN : n + m = N) (ys : List Value) (hys : xs ++ news = ys)
    (hK : ∀ sa' cap' w', w'.ownsRow 0 e sz (.slice sa' N cap') N ys → Keep w w' (fun b => some b = v.ownBlock) → (∀ b, (Value.slice sa' N cap').ownBlock = some b → v.ownBlock = some b ∨ b = w.heap.size) → K (a.put o.dst (.slice sa' N cap')) w') :
    if Region.wanted o (yielded ops a.tmps) = true then Oper.wp P o a w K Q else E := by
  subst hN hys
  have hw : Region.wanted o (yielded ops a.tmps) = true := by simp [Region.wanted, hg]
  rw [if_pos hw]
  exact wp_append_row s x t ho ht hi hz hsize hby hzs hsz hs hown news hx hl hnews h1 h63 hK
end
theorem cells_new (w : World) (xs : List Value) (t : TypeId) : ∀ j u, xs[j]? = some u → (w.alloc (.cells xs.toArray t (0, 0))).cell? ((⟨w.heap.size, 0, none⟩ : Addr).add j) = some u := by
  intro j u hj
  have e : ((⟨w.heap.size, 0, none⟩ : Addr).add j) = ⟨w.heap.size, j, none⟩ := by
    unfold Addr.add
    split
    · rename_i h; rw [h]
    · simp
  rw [e, cell_blk (heap_alloc_eq _ _)]
  simpa using hj
theorem rows_keep {w w' : World} {e : TypeId} {sz : Nat} {v : Value} {n : Nat} {xs : List Value} {S : Nat → Prop} (h : w.ownsRow 0 e sz v n xs) (k : Keep w w' S) (hS : ∀ b, v.ownBlock = some b → ¬ S b) : w'.ownsRow 0 e sz v n xs :=
  own_keep h k (fun b q => hS b q.symm)
theorem rows_val {w : World} {e : TypeId} {sz : Nat} {v : Value} {n : Nat} {xs : List Value} (h : w.ownsRow 0 e sz v n xs) : (v = .slice none 0 0 ∧ n = 0) ∨ ∃ g cap, v = .slice (some ⟨g, 0, none⟩) n cap ∧ n ≤ cap ∧ v.ownBlock = some g ∧ g < w.heap.size := by
  rcases h.2 with h | ⟨g, cap, cur, rfl, _, hb, h, _⟩
  · exact .inl h
  · exact .inr ⟨g, cap, rfl, h, rfl, lt_of_blk hb⟩
theorem rows_val2 {w : World} {e : TypeId} {sz : Nat} {v : Value} {n : Nat} {xs : List Value} (h : w.ownsRow 0 e sz v n xs) : ∃ a cap, v = .slice a n cap ∧ n ≤ cap := by
  rcases rows_val h with ⟨rfl, rfl⟩ | ⟨g, cap, rfl, h, _⟩
  · exact ⟨_, _, rfl, Nat.le_refl _⟩
  · exact ⟨_, _, rfl, h⟩
theorem rows_some {w : World} {e : TypeId} {sz : Nat} {a : Option Addr} {m cap n : Nat} {xs : List Value} (h : w.ownsRow 0 e sz (.slice a m cap) n xs) (hn : 0 < n) : ∃ g, a = some ⟨g, 0, none⟩ ∧ m = n ∧ n ≤ cap ∧ g < w.heap.size := by
  rcases h.2 with ⟨h1, rfl⟩ | ⟨g, c, cur, h1, h2, h3, h4, _⟩
  · omega
  · simp only [Value.slice.injEq] at h1
    obtain ⟨h5, h6, rfl⟩ := h1
    exact ⟨g, h5, h6, h4, lt_of_blk h3⟩
theorem rows_cell {w : World} {e : TypeId} {sz g cap n m : Nat} {xs : List Value} (h : w.ownsRow 0 e sz (.slice (some ⟨g, 0, none⟩) m cap) n xs) {j : Nat} {u : Value} (hj : xs[j]? = some u) :
    w.cell? ⟨g, j, none⟩ = some u ∧ w.frozen? ⟨g, j, none⟩ = false := by
  obtain ⟨h0, h⟩ := h
  rcases h with ⟨h1, _⟩ | ⟨g', c, cur, h1, h2, h3, h4, h5, h6, h7⟩
  · cases h1
  · simp only [Value.slice.injEq, Option.some.injEq, Addr.mk.injEq] at h1
    obtain ⟨⟨rfl, _⟩, _⟩ := h1
    have hl : j < xs.length := (List.getElem?_eq_some_iff.1 hj).1
    refine ⟨?_, free_blk h3 _⟩
    rw [cell_blk h3, ← hj, ← h7, List.getElem?_take_of_lt (by omega)]
    simp
theorem rows_set {w : World} {e : TypeId} {sz g cap n m : Nat} {xs : List Value} (h : w.ownsRow 0 e sz (.slice (some ⟨g, 0, none⟩) m cap) n xs) (j : Nat) (u : Value) :
    (w.setCell ⟨g, j, none⟩ u).ownsRow 0 e sz (.slice (some ⟨g, 0, none⟩) m cap) n (xs.set j u) := by
  obtain ⟨h0, h⟩ := h
  refine ⟨by simpa using h0, .inr ?_⟩
  rcases h with ⟨h1, _⟩ | ⟨g', c, cur, h1, h2, h3, h4, h5, h6, h7⟩
  · cases h1
  · have h1' := h1
    simp only [Value.slice.injEq, Option.some.injEq, Addr.mk.injEq] at h1
    obtain ⟨⟨rfl, _⟩, _⟩ := h1
    refine ⟨g, c, cur.setIfInBounds j u, h1', h2, heap_setCell_eq u h3, h4, h5, by simpa using h6, ?_⟩
    rw [← h7, Array.toList_setIfInBounds, List.take_set]
theorem rows_len {w : World} {e : TypeId} {sz : Nat} {v : Value} {n : Nat} {xs : List Value} (h : w.ownsRow 0 e sz v n xs) : xs.length = n * sz := h.1
theorem rows_empty {w : World} {e : TypeId} {sz g : Nat} (h : w.heap[g]? = some (.cells #[] e (0, 0))) : w.ownsRow 0 e sz (.slice (some ⟨g, 0, none⟩) 0 0) 0 [] := ⟨by simp, .inr ⟨g, 0, #[], rfl, Nat.zero_le _, h, Nat.le_refl _, Nat.zero_le _, by simp, by simp⟩⟩
theorem rows_read {w : World} {e : TypeId} {sz g cap n m : Nat} {xs : List Value} (h : w.ownsRow 0 e sz (.slice (some ⟨g, 0, none⟩) m cap) n xs) (d : Nat) {ys : List Value} (hy : ∀ j u, ys[j]? = some u → xs[d + j]? = some u) : ∀ j u, ys[j]? = some u → w.cell? ((⟨g, d, none⟩ : Addr).add j) = some u := by
  intro j u hj
  have e : ((⟨g, d, none⟩ : Addr).add j) = ⟨g, d + j, none⟩ := by
    unfold Addr.add
    split
    · rename_i h; rw [h]; rfl
    · rfl
  rw [e]
  exact (rows_cell h (hy j u hj)).1
theorem rows_nil (w : World) (e : TypeId) (sz : Nat) : w.ownsRow 0 e sz (.slice none 0 0) 0 [] := ⟨by simp, .inl ⟨rfl, rfl⟩⟩
def flat {α : Type} (f : α → List Value) (l : List α) : List Value := l.flatMap f
theorem flat_len {α : Type} (f : α → List Value) (sz : Nat) (hf : ∀ x, (f x).length = sz) (l : List α) : (flat f l).length = l.length * sz := by
  induction l with
  | nil => simp [flat]
  | cons x r ih => simp [flat] at ih ⊢; rw [ih, hf, Nat.add_mul]; omega
theorem flat_append {α : Type} (f : α → List Value) (l m : List α) : flat f (l ++ m) = flat f l ++ flat f m := by simp [flat]
theorem flat_get {α : Type} (f : α → List Value) (sz : Nat) (hf : ∀ x, (f x).length = sz) {l : List α} {i : Nat} {x : α} (h : l[i]? = some x) {j : Nat} (hj : j < sz) : (flat f l)[i * sz + j]? = (f x)[j]? := by
  induction l generalizing i with
  | nil => simp at h
  | cons y r ih =>
    cases i with
    | zero =>
      simp at h; subst h
      simp only [flat, List.flatMap_cons, Nat.zero_mul, Nat.zero_add]
      rw [List.getElem?_append_left (by rw [hf]; exact hj)]
    | succ i =>
      simp only [List.getElem?_cons_succ] at h
      simp only [flat, List.flatMap_cons]
      rw [List.getElem?_append_right (by rw [hf, Nat.add_mul]; omega), hf]
      have := ih h
      simp only [flat] at this
      rw [show (i + 1) * sz + j - sz = i * sz + j by rw [Nat.add_mul]; omega, this]
theorem flat_set {α : Type} (f : α → List Value) (sz : Nat) (hf : ∀ x, (f x).length = sz) {l : List α} {i : Nat} {x y : α} (h : l[i]? = some x) {j : Nat} (hj : j < sz) {u : Value} (hy : (f x).set j u = f y) : (flat f l).set (i * sz + j) u = flat f (l.set i y) := by
  induction l generalizing i with
  | nil => simp at h
  | cons z r ih =>
    cases i with
    | zero =>
      simp at h; subst h
      simp only [flat, List.flatMap_cons, Nat.zero_mul, Nat.zero_add, List.set_cons_zero]
      rw [List.set_append_left _ _ (by rw [hf]; exact hj), hy]
    | succ i =>
      simp only [List.getElem?_cons_succ] at h
      simp only [flat, List.flatMap_cons, List.set_cons_succ]
      rw [List.set_append_right _ _ (by rw [hf, Nat.add_mul]; omega), hf]
      have := ih h
      simp only [flat] at this
      rw [show (i + 1) * sz + j - sz = i * sz + j by rw [Nat.add_mul]; omega, this]
theorem flat_drop {α : Type} (f : α → List Value) (sz : Nat) (hf : ∀ x, (f x).length = sz) (l : List α) (k : Nat) : flat f (l.drop k) = (flat f l).drop (k * sz) := by
  induction k generalizing l with
  | zero => simp
  | succ k ih =>
    cases l with
    | nil => simp [flat]
    | cons x r =>
      rw [List.drop_succ_cons, ih]
      simp only [flat, List.flatMap_cons]
      have e : List.drop ((k + 1) * sz) (f x) = [] := List.drop_eq_nil_of_le (by rw [hf, Nat.add_mul]; omega)
      rw [List.drop_append, hf, show (k + 1) * sz - sz = k * sz by rw [Nat.add_mul]; omega, e, List.nil_append]
theorem flat_take {α : Type} (f : α → List Value) (sz : Nat) (hf : ∀ x, (f x).length = sz) (l : List α) (k : Nat) : flat f (l.take k) = (flat f l).take (k * sz) := by
  induction k generalizing l with
  | zero => simp [flat]
  | succ k ih =>
    cases l with
    | nil => simp [flat]
    | cons x r =>
      simp only [List.take_succ_cons]
      have := ih r
      simp only [flat, List.flatMap_cons] at this ⊢
      have e : List.take ((k + 1) * sz) (f x) = f x := List.take_of_length_le (by rw [hf, Nat.add_mul]; omega)
      rw [this, List.take_append, hf, show (k + 1) * sz - sz = k * sz by rw [Nat.add_mul]; omega, e]
end Go.Proofs.YtoanccechefclaaGreatDoor
namespace Go.Proofs.YtoanccechefclaaGreatDoor
open Go Go.RowKit
def ListIn (w : World) (v : Value) (xs : List Value) : Prop :=
  ∃ a cap, v = .slice a xs.length cap ∧ (xs = [] ∨ ∃ b off, a = some ⟨b, off, none⟩ ∧ b < w.heap.size ∧ ∀ i u, xs[i]? = some u → w.cell? ⟨b, off + i, none⟩ = some u)
def Clear (v : Value) (S : Nat → Prop) : Prop := ∀ b, v.ownBlock = some b → ¬ S b
theorem ListIn.keep {w w' : World} {v : Value} {xs : List Value} {S : Nat → Prop} (h : ListIn w v xs) (k : Keep w w' S) (hS : Clear v S) : ListIn w' v xs := by
  obtain ⟨a, cap, rfl, h⟩ := h
  refine ⟨a, cap, rfl, h.imp id ?_⟩
  rintro ⟨b, off, rfl, h1, h2⟩
  exact ⟨b, off, rfl, Nat.lt_of_lt_of_le h1 k.size, fun i u hi => k.cell (h2 i u hi) (hS b rfl)⟩
theorem ListIn.old {w w' : World} {v : Value} {xs : List Value} (h : ListIn w v xs) (k : Keep w w' (fun b => w.heap.size ≤ b)) : ListIn w' v xs := by
  obtain ⟨a, cap, rfl, h⟩ := h
  refine ⟨a, cap, rfl, h.imp id ?_⟩
  rintro ⟨b, off, rfl, h1, h2⟩
  exact ⟨b, off, rfl, Nat.lt_of_lt_of_le h1 k.size, fun i u hi => k.cell (h2 i u hi) (by omega)⟩
theorem ListIn.aside {w w' : World} {v : Value} {xs : List Value} (h : ListIn w v xs) (k : Keep w w' (fun _ => False)) : ListIn w' v xs := h.keep k (fun _ _ q => q)
theorem ListIn.of_own {w : World} {e : TypeId} {v : Value} {n : Nat} {xs : List Value} (h : w.ownsRow 0 e 1 v n xs) : ListIn w v xs := by
  have hl := rows_len h
  rcases rows_val h with ⟨rfl, rfl⟩ | ⟨g, cap, rfl, h3, _, h4⟩
  · have : xs = [] := List.length_eq_zero_iff.1 (by omega)
    subst this
    exact ⟨none, 0, rfl, .inl rfl⟩
  · refine ⟨some ⟨g, 0, none⟩, cap, by rw [hl, Nat.mul_one], .inr ⟨g, 0, rfl, h4, fun i u hi => ?_⟩⟩
    rw [Nat.zero_add]
    exact (rows_cell h hi).1
theorem ListIn.val {w : World} {v : Value} {xs : List Value} (h : ListIn w v xs) : ∃ a cap, v = .slice a xs.length cap := by
  obtain ⟨a, cap, rfl, _⟩ := h
  exact ⟨a, cap, rfl⟩
theorem ListIn.some {w : World} {a : Option Addr} {m cap : Nat} {xs : List Value} (h : ListIn w (.slice a m cap) xs) (h0 : 0 < xs.length) : ∃ b off, a = some ⟨b, off, none⟩ ∧ b < w.heap.size ∧ ∀ i u, xs[i]? = some u → w.cell? ⟨b, off + i, none⟩ = some u := by
  obtain ⟨a', cap', e, h⟩ := h
  cases e
  rcases h with rfl | h
  · simp at h0
  · exact h
theorem mapGet {α β : Type} {f : α → β} {l : List α} {i : Nat} {x : α} (h : l[i]? = some x) : (l.map f)[i]? = some (f x) := by rw [List.getElem?_map, h]; rfl
theorem drewN_keep (w : World) (S : Nat → Prop) (q : Nat) : Keep w (w.drewN q) S := ⟨Nat.le_refl _, fun _ _ _ => rfl, rfl, rfl, rfl⟩
structure Made (w wr : World) (e : TypeId) (v : Value) (xs : List Value) : Prop where
  row : wr.ownsRow 0 e 1 v xs.length xs
  keep : Keep w wr (fun _ => False)
  new : ∀ b, v.ownBlock = some b → w.heap.size ≤ b
theorem Made.nil (w : World) (e : TypeId) : Made w w e (.slice none 0 0) [] := ⟨rows_nil w e 1, Keep.refl _ _, fun b q => by simp [Value.ownBlock] at q⟩
theorem Made.turn {w w1 w2 : World} {e : TypeId} {v : Value} {xs : List Value} {S : Nat → Prop} (h : Made w w1 e v xs) (k : Keep w1 w2 S) (hc : Clear v S) (hS : ∀ b, S b → w.heap.size ≤ b) : Made w w2 e v xs :=
  ⟨rows_keep h.row k hc, h.keep.trans k (fun b q => .inr (hS b q)), h.new⟩
theorem Made.aside {w w1 w2 : World} {e : TypeId} {v : Value} {xs : List Value} (h : Made w w1 e v xs) (k : Keep w1 w2 (fun _ => False)) : Made w w2 e v xs := h.turn k (fun _ _ q => q) (fun _ q => q.elim)
theorem Made.val {w wr : World} {e : TypeId} {v : Value} {xs : List Value} (h : Made w wr e v xs) : ∃ a cap, v = .slice a xs.length cap :=
  let ⟨a, cap, h1, _⟩ := rows_val2 h.row; ⟨a, cap, h1⟩
theorem Made.valn {w wr : World} {e : TypeId} {v : Value} {xs : List Value} (h : Made w wr e v xs) {n : Nat} (hn : xs.length = n) : ∃ a cap, v = .slice a n cap := by subst hn; exact h.val
theorem Made.list {w wr : World} {e : TypeId} {v : Value} {xs : List Value} (h : Made w wr e v xs) : ListIn wr v xs := ListIn.of_own h.row
theorem Made.lt {w wr : World} {e : TypeId} {v : Value} {xs : List Value} (h : Made w wr e v xs) : ∀ b, v.ownBlock = some b → b < wr.heap.size := by
  intro b q
  rcases rows_val h.row with ⟨rfl, _⟩ | ⟨g, cap, rfl, _, h5, h6⟩
  · simp [Value.ownBlock] at q
  · rw [h5] at q; cases q; exact h6
theorem Made.set {w wr : World} {e : TypeId} {g n cap : Nat} {xs : List Value} (h : Made w wr e (.slice (some ⟨g, 0, none⟩) n cap) xs) (j : Nat) (u : Value) : Made w (wr.setCell ⟨g, j, none⟩ u) e (.slice (some ⟨g, 0, none⟩) n cap) (xs.set j u) :=
  ⟨by rw [List.length_set]; exact rows_set h.row j u, h.keep.trans (Keep.setCell wr ⟨g, j, none⟩ u) (fun b q => .inr (by rw [show b = g from q]; exact h.new g rfl)), h.new⟩
section
variable {P : Program} {w0 w1 : World} {ops : Array Oper} {rest : List Oper} {o : Oper} {a : Act} {Q : Exit → Act → World → Prop}
theorem law_push (hg : o.guard = none) (s x : Operand) (t : TypeId) (hop : o.op = .call { callee := .builtin .append, args := #[s, x], argTypes := #[t, t] }) {e : TypeId} {i : TypeInfo} {z : Value} (ht : P.underlying t = some (.slice e)) (hi : P.info? e = some i)
    (hz : i.zero = some z) (hsize : i.size = 1) (hby : i.bytes ≤ 64) (hzs : z.cells.size = 1) {v : Value} {xs : List Value} (M : Made w0 w1 e v xs) (hs : a.eval s = v) (u : Value) (hu : u.oneCell' = true) (hx : a.eval x = .slice (some ⟨w1.heap.size, 0, none⟩) 1 1) {n : Nat} (hn : xs.length = n) (hl : n ≤ 1099511627000)
    (hK : ∀ a8 cap8 w8, Made w0 w8 e (.slice a8 (n + 1) cap8) (xs ++ [u]) → Keep w1 w8 (fun b => v.ownBlock = some b) → (∀ b, (Value.slice a8 (n + 1) cap8).ownBlock = some b → v.ownBlock = some b ∨ w1.heap.size ≤ b) → wpList P ops Q rest (a.put o.dst (.slice a8 (n + 1) cap8)) w8) :
    wpList P ops Q (o :: rest) a (w1.alloc (.cells #[u] e)) := by
  subst hn
  have hk0 := Keep.alloc w1 (.cells #[u] e) (fun _ => False)
  refine law_append_row hg s x t hop ht hi hz hsize hby hzs (by omega) hs (rows_keep M.row hk0 (fun _ _ q => q)) [u] hx rfl (.inr ⟨_, rfl, cells_new w1 [u] e⟩) (fun y hy => by simp at hy; rw [hy]; exact hu) (by omega) ?_
  intro a8 cap8 w8 h1 h2 h3
  have hsz := hk0.size
  refine hK a8 cap8 w8 ⟨by simpa using h1, (M.keep.trans hk0 (fun _ q => q.elim)).trans h2 (fun b q => .inr (M.new b q.symm)), fun b q => ?_⟩ ?_ ?_
  · rcases h3 b q with z | z
    · exact M.new b z
    · have := M.keep.size; omega
  · exact (hk0.mono (fun _ q => q.elim)).trans (h2.mono (T := fun b => v.ownBlock = some b) (fun b q => q.symm)) (fun b q => .inl q)
  · intro b q
    rcases h3 b q with z | z
    · exact .inl z
    · exact .inr (by omega)
end
end Go.Proofs.YtoanccechefclaaGreatDoor
namespace Go.Proofs.YtoanccechefclaaGreatDoor
open Go Go.RowKit Go.Shelf
theorem keep_of_grown {w w' : World} {row : Option Nat} (h : w.grownBy w' row) : Keep w w' (fun b => some b = row) := Keep.grown h
theorem own_of {β : Type} {B : Nat} {I : β → World → Prop} (h : ∀ s W W', I s W → Keep W W' (fun b => B ≤ b ∧ ∃ o, W.heap[b]? = some o ∧ o.isCells = false) → I s W') : OwnFrom B I :=
  fun s W W' row hs hg hr => h s W W' hs ((keep_of_grown hg).mono fun b e => hr b e.symm)
theorem not_cells {W : World} {b : Nat} {c : Array Value} {t : TypeId} {fr : Nat × Nat} (h : W.heap[b]? = some (.cells c t fr)) (q : ∃ o, W.heap[b]? = some o ∧ o.isCells = false) : False := by
  obtain ⟨o, h1, h2⟩ := q
  rw [h] at h1
  cases h1
  simp [Obj.isCells] at h2
theorem leaves_none {F : Fence} {n : Nat} {P : Program} {fn : Func} {tmps : Array Value} {R : Ending → World → Prop} {w : World} (h : ∃ v, (results fn tmps).run P w = .ok v w ∧ R (.returned v) w) : LeavesInM F n P fn tmps R [] .returning w := h
theorem leaves_mark {F : Fence} {n : Nat} {P : Program} {fn : Func} {tmps : Array Value} {R : Ending → World → Prop} {w : World} {D : Nat} (hD : w.heap[D]? = some (.deferred (some []))) (h : ∀ w', Keep w w' (fun b => b = D) → ∃ v, (results fn tmps).run P w' = .ok v w' ∧ R (.returned v) w') :
    LeavesInM F n P fn tmps R [{ target := .collected D, args := #[] }] .returning w := by
  refine ⟨by simp, .inl ⟨D, _, rfl, run_takeDeferred hD, ?_⟩⟩
  refine h _ ((keep_of_grown (grownBy_putObj' w D (.deferred none))).mono fun b e => ?_)
  simpa using e
def endPost (P : Program) (fn : Func) (R : Ending → World → Prop) : Exit → Act → World → Prop
  | .normal, a, w | .ret, a, w => LeavesInM Fence.wide 9 P fn a.tmps R a.defers .returning w
  | _, _, _ => False
@[go_sem] theorem endPost_panic (P : Program) (fn : Func) (R : Ending → World → Prop) (c : List PanicEntry) (a : Act) (w : World) : endPost P fn R (.panic c) a w = False := rfl
theorem calls_marks {P : Program} {f : FuncId} {fn : Func} {c : Code} {args : Array Value} {w : World} {R : Ending → World → Prop} (hf : P.funcs[f]? = some fn) (hb : fn.body = some c)
    (h : c.wp P (endPost P fn R) { tmps := args ++ Array.replicate (fn.ntmps - args.size) undef, defers := [] } w) : Calls P f args w R :=
  (callsIn_wide (n := 9)).1 (callsIn_of_wp_marks hf hb trivial (wpIn_wide.2 (wp_mono h fun e a w q => by
    cases e with
    | normal => exact q
    | ret => exact q
    | _ => exact q.elim)) rfl)
theorem law_pushIn {F : Fence} {n : Nat} {P : Program} {w1 : World} {ops : Array Oper} {rest : List Oper} {o : Oper} {a : Act} {Q : Exit → Act → World → Prop} (hg : o.guard = none) (s x : Operand) (t : TypeId)
    (hop : o.op = .call { callee := .builtin .append, args := #[s, x], argTypes := #[t, t] }) {e : TypeId} {i : TypeInfo} {z : Value} (ht : P.underlying t = some (.slice e)) (hi : P.info? e = some i)
    (hz : i.zero = some z) (hsize : i.size = 1) (hby : i.bytes ≤ 64) (hzs : z.cells.size = 1) {v : Value} {k : Nat} {xs : List Value} (hown : w1.ownsRow 0 e 1 v k xs) (hs : a.eval s = v) (u : Value) (hu : u.oneCell' = true) {H : Nat} (hH : w1.heap.size = H) (hx : a.eval x = .slice (some ⟨H, 0, none⟩) 1 1) (hl : k ≤ 1099511627000)
    (hK : ∀ a8 cap8 w8, w8.ownsRow 0 e 1 (.slice a8 (k + 1) cap8) (k + 1) (xs ++ [u]) → Keep w1 w8 (fun b => v.ownBlock = some b) → (∀ b, (Value.slice a8 (k + 1) cap8).ownBlock = some b → v.ownBlock = some b ∨ w1.heap.size ≤ b) → wpListIn F n P ops Q rest (a.put o.dst (.slice a8 (k + 1) cap8)) w8) :
    wpListIn F n P ops Q (o :: rest) a (w1.alloc (.cells #[u] e)) := by
  subst hH
  have hk0 := Keep.alloc w1 (.cells #[u] e) (fun _ => False)
  have hsz := hk0.size
  refine wpListIn_plain hg fun K hK' => ?_
  obtain ⟨v', w', hrun, h2, h3, _, h5⟩ := run_append_own_at (P := P) (w1.alloc (.cells #[u] e)) 0 t o.type e i z 1 i.bytes ht hi hz hsize rfl hzs (by omega) v k xs (rows_keep hown hk0 (fun _ _ q => q)) ⟨w1.heap.size, 0, none⟩ 1 1 [u] rfl (cells_new w1 [u] e) (fun y hy => by simp at hy; rw [hy]; exact hu) (by unfold maxLen; omega) (by
    have : (k + 1) * i.bytes ≤ 1099511627776 * 64 := Nat.mul_le_mul (by omega) hby
    omega) (Nat.zero_le _)
  obtain ⟨sa', cap', rfl, _⟩ : ∃ a cap, v' = .slice a (k + 1) cap ∧ True := by
    rcases h2.2 with ⟨rfl, h⟩ | ⟨g, cap, cur, rfl, _⟩
    · rw [h]; exact ⟨_, _, rfl, trivial⟩
    · exact ⟨_, _, rfl, trivial⟩
  unfold Oper.wpIn
  refine ⟨?_, ?_⟩
  · simp [Oper.about, hop, resolve, Target.leads, Sem.run_pure]
  · rw [Oper.semAt_plain F _ _ (by rw [hop]; intro c hc'; cases hc')]
    simp [execOp, hop, resolve, invoke, builtin, hs, hx, hrun, Result.andThen]
    refine hK' _ _ (hK sa' cap' w' h2 ((hk0.mono (fun _ q => q.elim)).trans ((keep_of_grown h3).mono (T := fun b => v.ownBlock = some b) (fun b q => q.symm)) (fun b q => .inl q)) (fun b q => ?_))
    rcases h5 with h5 | h5
    · exact .inl (h5 ▸ q)
    · rw [h5] at q
      simp at q
      exact .inr (by omega)
end Go.Proofs.YtoanccechefclaaGreatDoor
namespace Go.Proofs.YtoanccechefclaaGreatDoor
open Go Go.RowKit Go.Shelf
theorem grown_of_keep {w w' : World} {it : Nat} (h : Keep w w' (fun b => b = it)) : w.grownBy w' (some it) :=
  ⟨h.os, h.tape, h.output, h.size, fun k hk hn => h.block k hk (fun e => hn (by rw [e]))⟩
section
variable {κ : Type} [DecidableEq κ] {F : Fence} {n : Nat} {P : Program} {w : World} {ops : Array Oper} {rest : List Oper} {o : Oper} {a : Act} {Q : Exit → Act → World → Prop} {kt et : TypeId} {kv : κ → Value} {b : Nat} {L : List (κ × Value)}
theorem law_rangeIn (hg : o.guard = none) (m : Operand) (t : TypeId) (hop : o.op = .range t m) (ht : P.underlying t = some (.map kt et)) (hm : a.eval m = .map (some b)) {B : List Nat} {c : Nat}
    (hat : MapAtB w b kv L B c) (hK : ∀ w1 it, it = w.heap.size → IterAt w1 it b L B [] → MapAtB w1 b kv L B c → Keep w w1 (fun _ => False) → it < w1.heap.size → wpListIn F n P ops Q rest (a.put o.dst (.pointer (some ⟨it, 0, none⟩))) w1) : wpListIn F n P ops Q (o :: rest) a w := by
  refine wpListIn_plain hg fun K' hK' => ?_
  obtain ⟨w1, hrun, h1, h2, h3, h4⟩ := range_run (P := P) ht hat
  unfold Oper.wpIn
  refine ⟨?_, ?_⟩
  · simp [Oper.about, hop, resolve, Target.leads, Sem.run_pure]
  · rw [Oper.semAt_plain F _ _ (by rw [hop]; intro c hc'; cases hc')]
    simp [execOp, hop, hm, hrun, Result.andThen]
    exact hK' _ _ (hK w1 _ rfl h1 h2 h3 h4)
theorem law_nextIn (hg : o.guard = none) (i : Operand) (hop : o.op = .next i false) {it : Nat} (hi : a.eval i = .pointer (some ⟨it, 0, none⟩)) {B : List Nat} {c : Nat} {done : List κ}
    (hat : MapAtB w b kv L B c) (hit : IterAt w it b L B done) (hne : it ≠ b)
    (hover : ∀ w1, (∀ x ∈ L, x.1 ∈ done) → Keep w w1 (fun x => x = it) → wpListIn F n P ops Q rest (a.put o.dst (.tuple #[.bool false])) w1)
    (hmore : ∀ w1 x, x ∈ L → x.1 ∉ done → (Instr.entry (.pointer (some ⟨it, 0, none⟩))).run P w1 = .ok (.tuple #[kv x.1, x.2]) w1 → MapAtB w1 b kv L B c → IterAt w1 it b L B (x.1 :: done) → Keep w w1 (fun x => x = it) →
      wpListIn F n P ops Q rest (a.put o.dst (.tuple #[.bool true, kv x.1, x.2])) w1) : wpListIn F n P ops Q (o :: rest) a w := by
  refine wpListIn_plain hg fun K' hK' => ?_
  rcases next_run (P := P) (t := o.type) hat hit hne with ⟨w1, hrun, h1, h2⟩ | ⟨w1, x, h1, h2, hrun, h3, h4, h5, h6⟩
  · unfold Oper.wpIn
    refine ⟨?_, ?_⟩
    · simp [Oper.about, hop, resolve, Target.leads, Sem.run_pure]
    · rw [Oper.semAt_plain F _ _ (by rw [hop]; intro c hc'; cases hc')]
      simp [execOp, hop, hi, hrun, Result.andThen]
      exact hK' _ _ (hover w1 h1 h2)
  · unfold Oper.wpIn
    refine ⟨?_, ?_⟩
    · simp [Oper.about, hop, resolve, Target.leads, Sem.run_pure]
    · rw [Oper.semAt_plain F _ _ (by rw [hop]; intro c hc'; cases hc')]
      simp [execOp, hop, hi, hrun, Result.andThen]
      exact hK' _ _ (hmore w1 x h1 h2 h3 h4 h5 h6)
end
def KpW (n0 : Nat) (W W' : World) : Prop := KeepsWalks W W' ∧ Below n0 W W'
theorem KpW.trans {n0 : Nat} {A B C : World} (h : KpW n0 A B) (k : KpW n0 B C) : KpW n0 A C := ⟨h.1.trans k.1, h.2.trans k.2⟩
theorem KpW.of {n0 : Nat} {W W' : World} {S : Nat → Prop} (h : Keep W W' S) (hS : ∀ b, S b → n0 ≤ b ∧ ∀ o, W.heap[b]? = some o → o.isCells = true) (hn : n0 ≤ W.heap.size) : KpW n0 W W' :=
  ⟨⟨h.size, fun k o hk ho => by
    rw [h.block k (lt_of_blk hk) (fun q => ?_)]
    · exact hk
    · have := (hS k q).2 o hk
      cases o <;> simp_all [Obj.isCells, Obj.isWalk]⟩, h.below hn (fun b q => (hS b q).1)⟩
theorem wp_range1W {α : Type} {P : Program} {g : Operand} {p j : Tmp} {assign body : Code} {Q : Exit → Act → World → Prop} {a : Act} {w : World}
    {gf : Nat} {lb : Array Value} (hg : a.eval g = .func (.func gf) #[] lb) (eg : ∀ args w, (callFunc gf args).run P w = .ok (.enter gf args) w)
    {enc : α → Value} {n0 : Nat} {S Sp : List α → Prop} {N : Nat} (hseq : SeqStopsK Fence.wide 8 P gf lb (fun x => #[enc x]) (KpW n0) S Sp N w) (hn0 : n0 ≤ w.heap.size)
    (I : List α → World → Prop) (Ix : Code → List α → World → Prop) (hI : OwnFrom w.heap.size I) (hIx : ∀ c, OwnFrom w.heap.size (Ix c)) (h0 : I [] w)
    (hassign : ∀ (l : Nat) (x : α) (W : World) (K : Act → World → Prop), K { tmps := (a.tmps.setIfInBounds p (enc x)).setIfInBounds j (enc x), defers := [] } W →
      assign.wpIn (Fence.wide.inRound l) 7 P (Exit.then K (fun _ _ _ => False)) { tmps := a.tmps.setIfInBounds p (enc x), defers := [] } W)
    (hbody : ∀ (l : Nat) (pre : List α) (x : α) (W : World), I pre W → pre.length < N → body.wpIn (Fence.wide.inRound l) 7 P (ownPostG w.heap.size (KpW n0) I Ix (pre ++ [x]) W) { tmps := (a.tmps.setIfInBounds p (enc x)).setIfInBounds j (enc x), defers := [] } W)
    (hdone : ∀ (D : Nat) (xs : List α) (W : World), w.heap.size ≤ D → S xs → I xs W → W.heap[D]? = some (.deferred (some [])) → Q .normal { a with defers := { target := .collected D, args := #[] } :: a.defers } W)
    (hstop : ∀ (D : Nat) (c : Code) (pre : List α) (W : World), w.heap.size ≤ D → Sp pre → Ix c pre W → W.heap[D]? = some (.deferred (some [])) → c.wp P Q { a with defers := { target := .collected D, args := #[] } :: a.defers } W) :
    (Code.rangeFunc g #[p] assign body).wp P Q a w :=
  (wpIn_wide (n := 9)).1 (wpIn_rangeFunc_ownG (F := Fence.wide) rfl (by omega) hg trivial eg hseq KpW.trans (fun W l o o' hl h hc hw => ⟨walksK_b W l o o' hl h hc hw, belowK_b hn0 W l o o' hl h hc hw⟩) (Below.refl _ _) (fun _ => rfl) I Ix hI hIx h0 (fun x => { tmps := (a.tmps.setIfInBounds p (enc x)).setIfInBounds j (enc x), defers := [] })
    (fun l x W K hK => by have h := hassign l x W K hK; simpa using h) hbody hdone (fun D c pre W h1 h2 h3 h4 => wpIn_wide.2 (hstop D c pre W h1 h2 h3 h4)))
end Go.Proofs.YtoanccechefclaaGreatDoor
