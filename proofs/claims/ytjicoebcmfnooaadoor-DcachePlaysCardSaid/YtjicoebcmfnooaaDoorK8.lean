/-
  The document's key: eight bytes of the dir, then the name. Plain laws, and the walk.
-/
import Derived.Test.YtjicoebcmfnooaaDoorDPure
import Derived.Test.YtjicoebcmfnooaaDoorD2
namespace Go.Proofs.YtjicoebcmfnooaaDoor
open Go Go.RowKit
set_option linter.unusedSectionVars false
set_option linter.unusedSimpArgs false
set_option linter.unusedVariables false
set_option maxRecDepth 100000

def u64N (d : Int) : Nat := (d % 18446744073709551616).toNat
def le8 (u : Nat) : Bs := (List.range 8).map fun i => UInt8.ofNat (u / 256 ^ i % 256)
def k8 (x : Nm) : ByteArray := strB (le8 (u64N x.1)) ++ x.2

/-- A dir that an int holds. -/
def InR (x : Nm) : Prop := -9223372036854775808 ≤ x.1 ∧ x.1 ≤ 9223372036854775807

theorem pow_eq {u v : Nat} : ∀ n, (∀ i, i < n → u / 256 ^ i % 256 = v / 256 ^ i % 256) → u % 256 ^ n = v % 256 ^ n := by
  intro n
  induction n with
  | zero => intro _; simp [Nat.mod_one]
  | succ n ih =>
    intro h
    rw [Nat.mod_pow_succ, Nat.mod_pow_succ, ih (fun i hi => h i (by omega)), h n (by omega)]

theorem le8_len (u : Nat) : (le8 u).length = 8 := by simp [le8]

theorem le8_inj {u v : Nat} (hu : u < 18446744073709551616) (hv : v < 18446744073709551616) (h : le8 u = le8 v) : u = v := by
  have h8 := pow_eq (u := u) (v := v) 8 fun i hi => by
    have e := congrArg (fun l => l[i]?) h
    simp only [le8, List.getElem?_map, List.getElem?_range hi, Option.map_some, Option.some.injEq] at e
    have e2 := congrArg UInt8.toNat e
    rw [UInt8.toNat_ofNat', UInt8.toNat_ofNat'] at e2
    have m1 : u / 256 ^ i % 256 < 256 := Nat.mod_lt _ (by omega)
    have m2 : v / 256 ^ i % 256 < 256 := Nat.mod_lt _ (by omega)
    rwa [Nat.mod_eq_of_lt m1, Nat.mod_eq_of_lt m2] at e2
  rwa [Nat.mod_eq_of_lt (by omega), Nat.mod_eq_of_lt (by omega)] at h8

theorem bs_app (a b : ByteArray) : bsOf (a ++ b) = bsOf a ++ bsOf b := by
  unfold bsOf
  simp

theorem k8_inj {x y : Nm} (hx : InR x) (hy : InR y) (h : k8 x = k8 y) : x = y := by
  have e := congrArg bsOf h
  unfold k8 at e
  rw [bs_app, bs_app, bsOf_strB, bsOf_strB] at e
  obtain ⟨e1, e2⟩ := List.append_inj e (by rw [le8_len, le8_len])
  have e3 := le8_inj (by unfold u64N; omega) (by unfold u64N; omega) e1
  have e4 : x.2 = y.2 := by rw [← strB_bsOf x.2, e2, strB_bsOf]
  unfold u64N at e3
  obtain ⟨x1, x2⟩ := hx
  obtain ⟨y1, y2⟩ := hy
  exact Prod.ext (by omega) e4

theorem k8_size (x : Nm) : (k8 x).size = 8 + x.2.size := by
  unfold k8
  rw [ByteArray.size_append, strB_size, le8_len]

/-! ### the walk -/

def halfK (u j : Nat) : Array Value := ((List.range 8).map fun i => if i < j then Value.int .u8 ((u / 256 ^ i % 256 : Nat) : Int) else .int .u8 0).toArray

theorem halfK_zero (u : Nat) : halfK u 0 = Array.replicate 8 (.int .u8 0) := by
  unfold halfK
  simp
  rfl
theorem halfK_size (u j : Nat) : (halfK u j).size = 8 := by simp [halfK]
theorem halfK_get (u j i : Nat) (h : i < 8) : (halfK u j)[i]? = some (if i < j then Value.int .u8 ((u / 256 ^ i % 256 : Nat) : Int) else .int .u8 0) := by
  simp [halfK, h]
theorem halfK_succ (u j : Nat) (h : j < 8) : (halfK u j).setIfInBounds j (.int .u8 ((u / 256 ^ j % 256 : Nat) : Int)) = halfK u (j + 1) := by
  apply Array.ext_getElem?
  intro i
  by_cases hi : i < 8
  · rw [Array.getElem?_setIfInBounds, halfK_size, halfK_get u (j + 1) i hi, halfK_get u j i hi]
    by_cases e : j = i
    · subst e
      rw [if_pos rfl, if_pos h, if_pos (by omega)]
    · rw [if_neg e]
      by_cases e2 : i < j
      · rw [if_pos e2, if_pos (by omega)]
      · rw [if_neg e2, if_neg (by omega)]
  · rw [Array.getElem?_eq_none (by rw [Array.size_setIfInBounds, halfK_size]; omega), Array.getElem?_eq_none (by rw [halfK_size]; omega)]

theorem u8_inf : ∃ i, Tryd.prog.info? 5 = some i ∧ i.size = 1 ∧ i.bytes ≤ 64 := by
  have h : (Tryd.prog.info? 5).map (fun i => (i.size, i.bytes)) = some (1, 1) := by kernel_rfl
  cases hh : Tryd.prog.info? 5 with
  | none => rw [hh] at h; simp at h
  | some i =>
    rw [hh] at h
    simp only [Option.map_some, Option.some.injEq, Prod.mk.injEq] at h
    exact ⟨i, rfl, h.1, by omega⟩

theorem u8_zer (w : World) : (zeroValue 5).run Tryd.prog w = .ok (.int .u8 0) w := by kernel_rfl

theorem shr_run (u j : Nat) (hu : u < 18446744073709551616) (hj : j < 8) (w : World) : (Op.shift .shr .u64 (u : Int) .u64 ((8 * j : Nat) : Int)).run Tryd.prog w = .ok (.int .u64 ((u / 256 ^ j : Nat) : Int)) w := by
  have h : j = 0 ∨ j = 1 ∨ j = 2 ∨ j = 3 ∨ j = 4 ∨ j = 5 ∨ j = 6 ∨ j = 7 := by omega
  rcases h with rfl | rfl | rfl | rfl | rfl | rfl | rfl | rfl <;> simp [Op.shift, Int.fdiv_eq_ediv_of_nonneg] <;> rfl

end Go.Proofs.YtjicoebcmfnooaaDoor
