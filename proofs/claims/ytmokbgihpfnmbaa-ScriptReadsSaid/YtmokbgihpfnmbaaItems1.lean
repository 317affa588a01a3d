/-
  The items of bytes, handed on one by one (script.items): what the one who takes them must leave alone; the iterator.
-/
import Derived.Test.YtmokbgihpfnmbaaOne
import Derived.Test.YtmokbgihpfnmbaaRangeG
namespace Go.Proofs.Ytmokbgihpfnmbaa
open Go Go.RowKit Go.Shelf
set_option linter.unusedSectionVars false
set_option linter.unusedSimpArgs false
set_option linter.unusedVariables false
attribute [local go_sem] Oper.semAt_some

/-- All items of bytes. -/
def allI (b : Bs) : List ItemV := decS b.length b

theorem allI_nil : allI [] = [] := rfl

theorem allI_cons {b : Bs} (h : 0 < b.length) : allI b = (oneI b).1 :: (if (oneI b).2 = 0 then [] else allI (b.drop (oneI b).2)) := by
  unfold allI
  obtain ⟨m, hm⟩ : ∃ m, b.length = m + 1 := ⟨b.length - 1, by omega⟩
  rw [hm, decS, if_neg (by omega)]
  by_cases h0 : (oneI b).2 = 0
  · rw [if_pos h0, if_pos h0]
  · rw [if_neg h0, if_neg h0]
    obtain ⟨k, hk⟩ : ∃ k, m = (b.drop (oneI b).2).length + k := ⟨m - (b.drop (oneI b).2).length, by rw [List.length_drop]; omega⟩
    rw [hk, decS_more _ _ k (Nat.le_refl _)]

theorem allI_len (b : Bs) : (allI b).length ≤ b.length := (decS_len b _).2

theorem decS_take (b : Bs) : ∀ m, decS m b = (allI b).take m := by
  intro m
  induction m generalizing b with
  | zero => simp [decS]
  | succ m ih =>
    by_cases h : b.length = 0
    · obtain rfl : b = [] := List.eq_nil_of_length_eq_zero h
      simp [decS_nil, allI_nil]
    · rw [allI_cons (by omega), decS, if_neg h, List.take_succ_cons]
      congr 1
      split
      · simp
      · exact ih _

/-- An item as it is handed on: beside it the value of its data. -/
abbrev ItemD := ItemV × Value

/-- The blocks that the taker writes: its row's cell, its row. -/
def Rowb (bx : Nat) (W : World) (x : Nat) : Prop := x = bx ∨ ∃ v, W.cell? ⟨bx, 0, none⟩ = some v ∧ v.ownBlock = some x

/-- What the taker leaves alone in a round. -/
structure Kr (bx : Nat) (W U : World) : Prop where
  size : W.heap.size ≤ U.heap.size
  same : ∀ b o, W.heap[b]? = some o → o.isCells = true → ¬ Rowb bx W b → U.heap[b]? = some o
  rows : ∀ x, Rowb bx U x → Rowb bx W x ∨ W.heap.size ≤ x
  low : (∀ x, Rowb bx W x → x < W.heap.size) → ∀ x, Rowb bx U x → x < U.heap.size

theorem Kr.trans {bx : Nat} {A B C : World} (h : Kr bx A B) (k : Kr bx B C) : Kr bx A C :=
  ⟨Nat.le_trans h.size k.size, fun b o hb hc hn => k.same b o (h.same b o hb hc hn) hc (fun q => by
    rcases h.rows b q with q | q
    · exact hn q
    · have := lt_of_blk hb; omega), fun x q => by
    rcases k.rows x q with q | q
    · exact h.rows x q
    · exact .inr (by have := h.size; omega), fun hl => k.low (h.low hl)⟩

theorem Rowb.same {bx : Nat} {W U : World} (k : Keep W U (fun _ => False)) (hb : bx < W.heap.size) (x : Nat) : Rowb bx U x ↔ Rowb bx W x := by
  unfold Rowb
  have : U.cell? ⟨bx, 0, none⟩ = W.cell? ⟨bx, 0, none⟩ := by
    unfold World.cell?
    rw [k.block bx hb (fun q => q)]
  rw [this]

theorem Kr.of {bx : Nat} {W U : World} (k : Keep W U (fun _ => False)) (hb : bx < W.heap.size) : Kr bx W U := by
  have e : ∀ x, Rowb bx U x ↔ Rowb bx W x := fun x => by
    unfold Rowb
    have : U.cell? ⟨bx, 0, none⟩ = W.cell? ⟨bx, 0, none⟩ := by
      unfold World.cell?
      rw [k.block bx hb (fun q => q)]
    rw [this]
  exact ⟨k.size, fun b o h _ _ => k.get h (fun q => q), fun x q => .inl ((e x).1 q), fun hl x q => Nat.lt_of_lt_of_le (hl x ((e x).1 q)) k.size⟩

theorem Kr.refl (bx : Nat) (W : World) : Kr bx W W := ⟨Nat.le_refl _, fun _ _ h _ _ => h, fun _ q => .inl q, fun h => h⟩

theorem Kr.grown {bx : Nat} {W U : World} {row : Option Nat} (g : W.grownBy U row) (hr : ∀ r, row = some r → ∃ o, W.heap[r]? = some o ∧ o.isCells = false) (hb : bx < W.heap.size) (hbc : ∃ o, W.heap[bx]? = some o ∧ o.isCells = true) : Kr bx W U := by
  have hne : ∀ (b : Nat) (p : Obj), W.heap[b]? = some p → p.isCells = true → U.heap[b]? = some p := fun b p hp hpc => by
    rw [g.block b (lt_of_blk hp) (fun e => by
      obtain ⟨o, h1, h2⟩ := hr b e.symm
      rw [h1] at hp
      cases hp
      rw [h2] at hpc
      cases hpc)]
    exact hp
  have e : U.cell? ⟨bx, 0, none⟩ = W.cell? ⟨bx, 0, none⟩ := by
    obtain ⟨o, h1, h2⟩ := hbc
    unfold World.cell?
    rw [hne bx o h1 h2, h1]
  have e2 : ∀ x, Rowb bx U x ↔ Rowb bx W x := fun x => by unfold Rowb; rw [e]
  exact ⟨g.size, fun b p hp hpc _ => hne b p hp hpc, fun x q => .inl ((e2 x).1 q), fun hl x q => Nat.lt_of_lt_of_le (hl x ((e2 x).1 q)) g.size⟩

theorem Kr.back {bx : Nat} {w : World} (hb : bx < w.heap.size) (W : World) (l : Nat) (o o' : Obj) (hl : w.heap.size ≤ l) (h : W.heap[l]? = some o) (hc : o.isCells = false) (_ : o.isWalk = false) : Kr bx W (W.putObj l o') := by
  have g := grownBy_putObj' W l o'
  have hne : ∀ (b : Nat) (p : Obj), W.heap[b]? = some p → p.isCells = true → (W.putObj l o').heap[b]? = some p := fun b p hp hpc => by
    rw [g.block b (lt_of_blk hp) (fun e => by
      simp at e
      subst e
      rw [h] at hp
      cases hp
      rw [hc] at hpc
      cases hpc)]
    exact hp
  have e : (W.putObj l o').cell? ⟨bx, 0, none⟩ = W.cell? ⟨bx, 0, none⟩ := by
    unfold World.cell?
    by_cases q : bx < W.heap.size
    · rw [g.block bx q (fun e => by simp at e; omega)]
    · exfalso
      have := lt_of_blk h
      omega
  have e2 : ∀ x, Rowb bx (W.putObj l o') x ↔ Rowb bx W x := fun x => by unfold Rowb; rw [e]
  exact ⟨g.size, fun b p hp hpc _ => hne b p hp hpc, fun x q => .inl ((e2 x).1 q), fun hl x q => Nat.lt_of_lt_of_le (hl x ((e2 x).1 q)) g.size⟩

theorem BSl.kr {bx : Nat} {W U : World} {v : Value} {l : Bs} (h : BSl W v l) (k : Kr bx W U) (hc : Clear v (Rowb bx W)) : BSl U v l ∧ Clear v (Rowb bx U) := by
  refine ⟨?_, fun b q z => ?_⟩
  · rcases h with h | ⟨b, off, cap, rfl, h1, h2, h3, h4⟩
    · exact .inl h
    · refine .inr ⟨b, off, cap, rfl, h1, h2, Nat.lt_of_lt_of_le h3 k.size, fun i u hi => ?_⟩
      have hcell := h4 i u hi
      have hn : ¬ Rowb bx W b := hc b rfl
      obtain ⟨c, t, fr, hblk⟩ : ∃ c t fr, W.heap[b]? = Option.some (Obj.cells c t fr) := by
        unfold World.cell? at hcell
        split at hcell
        · rename_i hh; exact ⟨_, _, _, hh⟩
        · cases hcell
      have := k.same b _ hblk rfl hn
      rw [cell_blk this]
      rw [cell_blk hblk] at hcell
      exact hcell
  · rcases k.rows b z with z | z
    · exact hc b q z
    · have := h.lt b q; omega

end Go.Proofs.Ytmokbgihpfnmbaa
