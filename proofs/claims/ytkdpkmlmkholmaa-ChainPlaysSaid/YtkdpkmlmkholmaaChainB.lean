/-
  New refused; the texts of one sign '0' ..; the closed sentence's table.
-/
import Derived.Test.YtkdpkmlmkholmaaChainA
import Derived.Test.YtkdpkmlmkholmaaKeys
namespace Go.Proofs.Ytkdpkmlmkholmaa
open Go Go.RowKit
set_option linter.unusedSectionVars false
set_option linter.unusedSimpArgs false
set_option linter.unusedVariables false

theorem new_bad (w : World) (m : Int) (h : m < 1 ∨ 64 < m) :
    Calls Try.prog 8 #[.int .i64 m] w fun r w' => r = .returned (.tuple #[.pointer none, .int .i64 1]) ∧ w = w' := by
  rcases h with h | h
  · go_enter Try.func8, Try.ntmps8
    go_wp2
    go_ret2
    exact ⟨rfl, rfl⟩
  · have h' : ¬ m < 1 := by omega
    go_enter Try.func8, Try.ntmps8
    go_wp2
    go_ret2
    exact ⟨rfl, rfl⟩

/-- The text of the sign 48 + k. -/
def eK (k : Nat) : ByteArray := ⟨#[UInt8.ofNat (48 + k)]⟩

theorem eK_enc (k : Nat) (hk : k < 64) : Utf8.encode (48 + (k : Int)) = eK k := by
  unfold Utf8.encode eK
  have hv : Utf8.valid (48 + (k : Int)) = true := by unfold Utf8.valid; simp; omega
  have ht : (48 + (k : Int)).toNat = 48 + k := by omega
  simp only [hv, if_true, ht]
  rw [if_pos (by omega)]

theorem eK_inj {i j : Nat} (hi : i < 64) (hj : j < 64) (h : eK i = eK j) : i = j := by
  unfold eK at h
  simp only [ByteArray.mk.injEq, Array.mk.injEq, List.cons.injEq, and_true] at h
  have := congrArg UInt8.toNat h
  simp only [UInt8.toNat_ofNat'] at this
  omega

theorem eK_size (k : Nat) : (eK k).size ≤ 9223372036854775807 := by
  show 1 ≤ _
  omega

def numT (k : Nat) : List Pair := (List.range k).map fun i => (eK i, (i : Int))

theorem numT_len (k : Nat) : (numT k).length = k := by simp [numT]
theorem numT_succ (k : Nat) : numT (k + 1) = numT k ++ [(eK k, (k : Int))] := by simp [numT, List.range_succ]

theorem agetNone {T : List Pair} {key : ByteArray} (h : ∀ x ∈ T, x.1 ≠ key) : aget T key = none := by
  induction T with
  | nil => rfl
  | cons x r ih =>
    obtain ⟨a, u⟩ := x
    have h1 := h (a, u) (by simp)
    simp only at h1
    simp only [aget, h1, if_false]
    exact ih (fun y hy => h y (by simp [hy]))

theorem numT_none (k : Nat) (hk : k < 64) : aget (numT k) (eK k) = none := by
  apply agetNone
  intro x hx e
  simp only [numT, List.mem_map, List.mem_range] at hx
  obtain ⟨i, hi, rfl⟩ := hx
  have := eK_inj (by omega) hk e
  omega

theorem numT_put (k : Nat) (hk : k < 64) : putT (numT k) (eK k) k = (numT (k + 1), 0) := by
  unfold putT
  rw [numT_none k hk]
  simp only [numT_len]
  rw [if_neg (by omega), numT_succ]

theorem numT_full : (putT (numT 64) ⟨#[102, 117, 108, 108]⟩ 1) = (numT 64, 13) := by
  unfold putT
  have : aget (numT 64) ⟨#[102, 117, 108, 108]⟩ = none := by
    apply agetNone
    intro x hx e
    simp only [numT, List.mem_map, List.mem_range] at hx
    obtain ⟨i, hi, rfl⟩ := hx
    have := congrArg ByteArray.size e
    have e2 : (eK i).size = 1 := rfl
    simp only [e2] at this
    exact absurd this (by decide)
  rw [this]
  simp only [numT_len]
  rw [if_pos (by omega)]

def T63 : List Pair := adel (numT 64) (eK 5)

theorem numT_get5 : aget (numT 64) (eK 5) = some 5 := by kernel_rfl
theorem numT_drop : dropT (numT 64) (eK 5) = (T63, 5, 0) := by
  unfold dropT
  rw [numT_get5]
  rfl
theorem T63_len : T63.length = 63 := by kernel_rfl
theorem T63_none : aget T63 (eK 5) = none := by kernel_rfl
theorem T63_head : (T63.map Prod.fst)[0]? = some (eK 0) := by kernel_rfl

theorem eK_le {i j : Nat} (h : i ≤ j) (hj : j < 64) : leS (eK i) (eK j) := by
  unfold leS leL
  simp only [decide_eq_true_eq]
  show [UInt8.ofNat (48 + i)] ≤ [UInt8.ofNat (48 + j)]
  by_cases e : i = j
  · subst e; exact List.le_refl _
  · apply List.le_of_lt
    apply List.Lex.rel
    rw [UInt8.lt_iff_toNat_lt]
    simp only [UInt8.toNat_ofNat']
    omega

theorem T63_sorted : sortS (T63.map Prod.fst) = T63.map Prod.fst := by
  apply sortS_eq _ (List.Perm.refl _)
  have h1 : ((numT 64).map Prod.fst).Pairwise leS := by
    unfold numT
    rw [List.map_map, List.pairwise_map]
    have h2 := List.pairwise_lt_range (n := 64)
    refine (List.pairwise_iff_forall_sublist.2 ?_)
    intro a b hs
    have h3 := List.pairwise_iff_forall_sublist.1 h2 hs
    have hb : b ∈ List.range 64 := hs.subset (by simp)
    exact eK_le (by omega) (List.mem_range.1 hb)
  exact h1.sublist ((adel_sub (numT 64) (eK 5)).map Prod.fst)

end Go.Proofs.Ytkdpkmlmkholmaa
