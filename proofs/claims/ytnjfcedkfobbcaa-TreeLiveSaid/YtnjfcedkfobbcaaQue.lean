/-
  A queue of one's own: what is cut off its head, and 'append' behind it.
-/
import Derived.Test.YtnjfcedkfobbcaaLists
import Derived.ArgAppend
namespace Go.Proofs.Ytnjfcedkfobbcaa
open Go Go.RowKit
set_option linter.unusedSectionVars false
set_option linter.unusedSimpArgs false
set_option linter.unusedVariables false

/-- A slice in a block of one's own, wherever it begins. -/
structure QueAt (w wr : World) (xs : List Value) (g off cap : Nat) : Prop where
  le : xs.length ≤ cap
  top : cap ≤ maxLen
  new : w.heap.size ≤ g
  lt : g < wr.heap.size
  cell : ∀ i u, xs[i]? = some u → wr.cell? ⟨g, off + i, none⟩ = some u
  free : ∀ j, xs.length ≤ j → j < cap → (wr.cell? ⟨g, off + j, none⟩).isSome = true ∧ wr.frozen? ⟨g, off + j, none⟩ = false

namespace QueAt
variable {w wr w2 : World} {xs : List Value} {g off cap : Nat}
theorem beside {S : Nat → Prop} (h : QueAt w wr xs g off cap) (k : Keep wr w2 S) (hS : ¬ S g) : QueAt w w2 xs g off cap :=
  ⟨h.le, h.top, h.new, by have := k.size; have := h.lt; omega, fun i u hu => k.cell (h.cell i u hu) hS, fun j h1 h2 => by
    obtain ⟨a1, a2⟩ := h.free j h1 h2
    have hb := k.block g h.lt hS
    exact ⟨by rw [World.cell?_of_block (a := ⟨g, off + j, none⟩) hb]; exact a1, (World.frozen?_of_block (a := ⟨g, off + j, none⟩) hb).trans a2⟩⟩
theorem aside (h : QueAt w wr xs g off cap) (k : Keep wr w2 (fun _ => False)) : QueAt w w2 xs g off cap := h.beside k (fun q => q)
theorem tail {u : Value} (h : QueAt w wr (u :: xs) g off cap) : QueAt w wr xs g (off + 1) (cap - 1) := by
  have h1 := h.le
  simp only [List.length_cons] at h1
  refine ⟨by omega, by have := h.top; omega, h.new, h.lt, fun i u hu => ?_, fun j h2 h3 => ?_⟩
  · have := h.cell (i + 1) u (by simpa using hu)
    rw [show off + 1 + i = off + (i + 1) by omega]
    exact this
  · have := h.free (j + 1) (by simp only [List.length_cons]; omega) (by omega)
    rw [show off + 1 + j = off + (j + 1) by omega]
    exact this
theorem one (w : World) (u : Value) (e : TypeId) : QueAt w (w.alloc (.cells #[u] e)) [u] w.heap.size 0 1 := by
  have h := heap_alloc_eq w (.cells #[u] e)
  refine ⟨by simp, by unfold maxLen; omega, Nat.le_refl _, lt_of_blk h, fun i v hv => ?_, fun j h1 h2 => by simp at h1; omega⟩
  cases i with
  | zero =>
    simp at hv
    subst hv
    rw [cell_blk h (0 + 0)]
    rfl
  | succ i => simp at hv
end QueAt

section
variable {P : Program} {w0 w1 : World} {ops : Array Oper} {rest : List Oper} {o : Oper} {a : Act} {Q : Exit → Act → World → Prop}

/-- 'append(s, u)' at a queue. -/
theorem law_que (hg : o.guard = none) (s x : Operand) (t : TypeId) (hop : o.op = .call { callee := .builtin .append, args := #[s, x], argTypes := #[t, t] }) {e : TypeId} {i : TypeInfo} {z : Value} (ht : P.underlying t = some (.slice e)) (hi : P.info? e = some i)
    (hz : i.zero = some z) (hsize : i.size = 1) (hby : i.bytes ≤ 64) (hzs : z.cells.size = 1) {xs : List Value} {g off cap : Nat} (M : QueAt w0 w1 xs g off cap) {n : Nat} (hn : xs.length = n) (hs : a.eval s = .slice (some ⟨g, off, none⟩) n cap) (u : Value) (hu : u.oneCell' = true) {H : Nat} (hH : w1.heap.size = H) (hx : a.eval x = .slice (some ⟨H, 0, none⟩) 1 1) (hl : n ≤ 1099511627000)
    (h0 : w0.heap.size ≤ w1.heap.size)
    (hK : ∀ g8 off8 cap8 w8, QueAt w0 w8 (xs ++ [u]) g8 off8 cap8 → Keep w1 w8 (fun b => b = g) → (g8 = g ∨ w1.heap.size ≤ g8) → wpList P ops Q rest (a.put o.dst (.slice (some ⟨g8, off8, none⟩) (n + 1) cap8)) w8) :
    wpList P ops Q (o :: rest) a (w1.alloc (.cells #[u] e)) := by
  subst hH hn
  have hk0 := Keep.alloc w1 (.cells #[u] e) (fun _ => False)
  have M1 := M.aside hk0
  have hnew : ∀ j v, ([u] : List Value)[j]? = some v → (w1.alloc (.cells #[u] e)).cell? ((⟨w1.heap.size, 0, none⟩ : Addr).add j) = some v := fun j v hv => by
    rw [Addr.add_lit]
    cases j with
    | zero =>
      simp at hv
      subst hv
      rw [cell_blk (heap_alloc_eq w1 (.cells #[u] e)) (0 + 0)]
      rfl
    | succ j => simp at hv
  have h1 : ∀ v ∈ [u], v.oneCell' = true := fun v hv => by simp at hv; rw [hv]; exact hu
  refine wpList_plain hg fun K' hK' => ?_
  by_cases hr : xs.length + 1 ≤ cap
  · obtain ⟨a1, a2⟩ := M1.free xs.length (Nat.le_refl _) (by omega)
    have hrun := run_append_room_cells (P := P) (w := w1.alloc (.cells #[u] e)) t o.type e i ht hi g off xs.length cap ⟨w1.heap.size, 0, none⟩ 1 1 [u] (by simp [hsize]) hnew h1 hr
      (fun j hj => by
        simp only [List.length_singleton] at hj
        obtain rfl : j = 0 := by omega
        rw [hsize, Nat.mul_one, Nat.add_zero]; exact a1)
      (fun j hj => by
        simp only [List.length_singleton] at hj
        obtain rfl : j = 0 := by omega
        rw [hsize, Nat.mul_one, Nat.add_zero]; exact a2)
    rw [hsize, Nat.mul_one] at hrun
    unfold Oper.wp
    simp [execOp, hop, resolve, invoke, builtin, hs, hx, hrun, Result.andThen]
    refine hK' _ _ (hK g off cap _ ?_ ?_ (.inl rfl))
    · have hset : (w1.alloc (.cells #[u] e)).setCells g (off + xs.length) [u] = (w1.alloc (.cells #[u] e)).setCell ⟨g, off + xs.length, none⟩ u := rfl
      rw [hset]
      have ks := Keep.setCell (w1.alloc (.cells #[u] e)) ⟨g, off + xs.length, none⟩ u
      refine ⟨by simp; omega, M1.top, M1.new, by have := ks.size; have := M1.lt; omega, fun j v hv => ?_, fun j h2 h3 => ?_⟩
      · by_cases q : j = xs.length
        · subst q
          simp at hv
          subst hv
          exact World.cell?_setCell_same' _ _ _ a1
        · have hj : j < xs.length := by
            have := (List.getElem?_eq_some_iff.1 hv).1
            simp at this
            omega
          rw [List.getElem?_append_left hj] at hv
          rw [World.cell?_setCell_other _ _ _ _ (fun z => by
            injection z with z1 z2
            omega)]
          exact M1.cell j v hv
      · simp at h2
        obtain ⟨b1, b2⟩ := M1.free j (by omega) h3
        refine ⟨?_, ?_⟩
        · rw [World.cell?_setCell_other _ _ _ _ (fun z => by
            injection z with z1 z2
            omega)]
          exact b1
        · rw [← b2]
          exact World.frozen?_setCell ..
    · exact (hk0.mono (fun _ q => q.elim)).trans (Keep.setCell _ _ _) (fun b q => .inl q)
  · obtain ⟨v', w', hrun, r1, r2⟩ := run_append_arg_grows (P := P) (w := w1.alloc (.cells #[u] e)) t o.type e i z 1 i.bytes ht hi hz hsize rfl hzs (by omega) ⟨g, off, none⟩ xs.length cap xs (by omega)
      (fun j v hv => by rw [Addr.add_lit]; exact M1.cell j v hv) ⟨w1.heap.size, 0, none⟩ 1 1 [u] (by simp) hnew (by omega) (by unfold maxLen; omega) (by
        have : (xs.length + 1) * i.bytes ≤ (xs.length + 1) * 64 := Nat.mul_le_mul_left _ hby
        omega)
    obtain ⟨r0, ⟨-, q⟩ | ⟨g8, cap8, cur, rfl, hb, hg8, hc1, hc2, hc3, hc4⟩⟩ := r1
    · omega
    have k2 := Keep.grown r2
    have hs1 := hk0.size
    unfold Oper.wp
    simp [execOp, hop, resolve, invoke, builtin, hs, hx, hrun, Result.andThen]
    refine hK' _ _ (hK g8 0 cap8 _ ⟨by simpa using hc1, hc2, by omega, lt_of_blk hg8, fun j v hv => ?_, fun j h2 h3 => ?_⟩ ?_ (.inr (by omega)))
    · rw [cell_blk hg8, Nat.zero_add]
      rw [← hc4, Nat.mul_one, List.getElem?_take] at hv
      split at hv
      · simpa using hv
      · cases hv
    · rw [cell_blk hg8, Nat.zero_add]
      refine ⟨?_, free_blk hg8 _⟩
      rw [Array.getElem?_eq_getElem (by omega)]
      rfl
    · exact (hk0.mono (fun _ q => q.elim)).trans (k2.mono (T := fun b => b = g) (fun b q => by cases q)) (fun b q => .inl q)
end

end Go.Proofs.Ytnjfcedkfobbcaa
