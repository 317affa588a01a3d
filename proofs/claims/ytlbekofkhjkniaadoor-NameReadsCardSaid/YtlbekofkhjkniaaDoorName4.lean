/-
  Plain laws of paths that are laid part by part.
-/
import Derived.Test.YtlbekofkhjkniaaDoorName3
namespace Go.Proofs.YtlbekofkhjkniaaDoor
open Go Go.RowKit
set_option linter.unusedSectionVars false
set_option linter.unusedSimpArgs false
set_option linter.unusedVariables false

theorem right_ok {p : Bl} (h : rightP p = true) : okP p := by
  unfold rightP at h
  rw [decide_eq_true_eq] at h
  obtain ⟨a, b, c, d, _⟩ := h
  exact ⟨a, ix_lt.1 c, ix_lt.1 d, b⟩

/-- What a path begins as. -/
def headS (root : Bool) : Bl := if root then [47] else []

/-- A path of these parts, so far. -/
def pathS (m : Nat) (root : Bool) (qs : List Bl) : Bl := headS root ++ Lib.join qs (barP m)

def barS (m : Nat) (qs : List Bl) : Bl := if qs = [] then [] else barP m

theorem join_snoc (qs : List Bl) (y sep : Bl) (h : qs ≠ []) : Lib.join (qs ++ [y]) sep = Lib.join qs sep ++ (sep ++ y) := by
  cases qs with
  | nil => exact absurd rfl h
  | cons x r =>
    rw [List.cons_append, Lib.join_cons, Lib.join_cons]
    simp [Lib.joinTail]

theorem pathS_nil (m : Nat) (root : Bool) : pathS m root [] = headS root := by simp [pathS, Lib.join_nil]

theorem pathS_snoc (m : Nat) (root : Bool) (qs : List Bl) (y : Bl) : pathS m root qs ++ barS m qs ++ y = pathS m root (qs ++ [y]) := by
  unfold pathS barS
  by_cases h : qs = []
  · subst h
    rw [List.nil_append, Lib.join_one, Lib.join_nil]
    simp
  · rw [if_neg h, join_snoc _ _ _ h]
    simp

theorem pathS_false (m : Nat) (root : Bool) (qs : List Bl) : pathS m root qs = writeB m root false qs := by
  unfold pathS writeB headS
  simp

theorem pathS_true (m : Nat) (root : Bool) (qs : List Bl) (h : qs ≠ []) : pathS m root qs ++ barP m = writeB m root true qs := by
  unfold pathS writeB headS
  cases qs with
  | nil => exact absurd rfl h
  | cons x r => simp

theorem barP_succ (m : Nat) : barP m ++ [47] = barP (m + 1) := by
  unfold barP
  rw [← List.replicate_succ']

theorem ok_sum {qs : List Bl} (h : ∀ p ∈ qs, okP p) : (qs.map List.length).sum ≤ 255 * qs.length := by
  induction qs with
  | nil => simp
  | cons x r ih =>
    have h1 := (h x (List.mem_cons_self ..)).2.2.2
    have h2 := ih (fun p hp => h p (List.mem_cons_of_mem _ hp))
    simp
    omega

theorem join_small {m : Nat} {qs : List Bl} (h : ∀ p ∈ qs, okP p) (hm : m ≤ 5) (hl : qs.length ≤ 12) : (Lib.join qs (barP m)).length ≤ 3200 := by
  cases qs with
  | nil => simp [Lib.join_nil]
  | cons x r =>
    have hs := ok_sum h
    rw [Lib.join_length]
    have e : Lib.lens (x :: r) = ((x :: r).map List.length).sum := rfl
    rw [e]
    have hb : (barP m).length = m + 1 := by simp [barP]
    rw [hb]
    have hr : r.length ≤ 11 := by simp at hl; omega
    have : (m + 1) * r.length ≤ 6 * 11 := Nat.mul_le_mul (by omega) hr
    omega

theorem pathS_small {m : Nat} {root : Bool} {qs : List Bl} (h : ∀ p ∈ qs, okP p) (hm : m ≤ 5) (hl : qs.length ≤ 12) : (pathS m root qs).length ≤ 3201 := by
  have := join_small h hm hl
  unfold pathS headS
  rw [List.length_append]
  cases root <;> simp <;> omega

theorem barP_len (m : Nat) : (barP m).length = m + 1 := by simp [barP]

theorem writeB_small {m : Nat} {root slash : Bool} {qs : List Bl} (h : ∀ p ∈ qs, okP p) (hm : m ≤ 5) (hl : qs.length ≤ 12) : (writeB m root slash qs).length ≤ 4096 := by
  have h1 := join_small h hm hl
  have h2 := barP_len m
  unfold writeB
  rw [List.length_append, List.length_append]
  have a1 : (if root = true then [(47 : UInt8)] else []).length ≤ 1 := by split <;> simp
  have a2 : (if (slash && !qs.isEmpty) = true then barP m else []).length ≤ 6 := by
    split
    · omega
    · simp
  omega

theorem back_reads {m : Nat} {root : Bool} (slash : Bool) {qs : List Bl} (h : ∀ p ∈ qs, okP p) (hm : m ≤ 5) (hl : qs.length ≤ 12) (hn : qs ≠ []) :
    readP (writeP root slash qs) = ((root, slash, qs), 0) ∧ readP (pathS m root qs ++ if slash then barP m else []) = ((root, slash, qs), 0) := by
  refine ⟨?_, ?_⟩
  · have := read_write 0 (root := root) (slash := slash) h hn (writeB_small h (by omega) hl)
    rwa [writeB_zero] at this
  · have := read_write m (root := root) (slash := slash) h hn (writeB_small h hm hl)
    cases slash
    · rw [← pathS_false] at this
      simpa using this
    · rw [← pathS_true _ _ _ hn] at this
      simpa using this

end Go.Proofs.YtlbekofkhjkniaaDoor
