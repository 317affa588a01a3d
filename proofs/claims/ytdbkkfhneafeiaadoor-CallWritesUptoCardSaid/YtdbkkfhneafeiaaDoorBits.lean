/-
  'or' of numbers that share no bits; what reads two and four bytes.
-/
import Derived.Test.YtdbkkfhneafeiaaDoorCode0
namespace Go.Proofs.YtdbkkfhneafeiaaDoor
open Go Go.RowKit
set_option linter.unusedSectionVars false
set_option linter.unusedSimpArgs false
set_option linter.unusedVariables false

theorem or_i64 {x y : Nat} (hx : x < 2 ^ 62) (hy : y < 2 ^ 62) : bits .or .i64 (x : Int) (y : Int) = ((x ||| y : Nat) : Int) := by
  have hxy : x ||| y < 2 ^ 62 := Nat.or_lt_two_pow hx hy
  unfold bits
  have e : (BitVec.ofInt IntKind.i64.bits (x : Int) ||| BitVec.ofInt IntKind.i64.bits (y : Int)).toNat = x ||| y := by
    rw [BitVec.toNat_or]
    have h1 : ∀ z : Nat, z < 2 ^ 62 → (BitVec.ofInt IntKind.i64.bits (z : Int)).toNat = z := by
      intro z hz
      show (BitVec.ofInt 64 (z : Int)).toNat = z
      rw [BitVec.ofInt_natCast, BitVec.toNat_ofNat]
      exact Nat.mod_eq_of_lt (by omega)
    rw [h1 x hx, h1 y hy]
  simp only [e]
  exact IntWalk.i64_in _ (by omega)

theorem wrap_u32 {n : Int} (h0 : 0 ≤ n) (h1 : n < 4294967296) : IntKind.u32.wrap n = n := by
  unfold IntKind.wrap
  simp only [IntKind.signed, IntKind.bits, Bool.false_and, Bool.false_eq_true, if_false]
  exact Int.emod_eq_of_lt h0 (by simpa using h1)

theorem or_u32 {x y : Nat} (hx : x < 2 ^ 32) (hy : y < 2 ^ 32) : bits .or .u32 (x : Int) (y : Int) = ((x ||| y : Nat) : Int) := by
  have hxy : x ||| y < 2 ^ 32 := Nat.or_lt_two_pow hx hy
  unfold bits
  have e : (BitVec.ofInt IntKind.u32.bits (x : Int) ||| BitVec.ofInt IntKind.u32.bits (y : Int)).toNat = x ||| y := by
    rw [BitVec.toNat_or]
    have h1 : ∀ z : Nat, z < 2 ^ 32 → (BitVec.ofInt IntKind.u32.bits (z : Int)).toNat = z := by
      intro z hz
      show (BitVec.ofInt 32 (z : Int)).toNat = z
      rw [BitVec.ofInt_natCast, BitVec.toNat_ofNat]
      exact Nat.mod_eq_of_lt (by omega)
    rw [h1 x hx, h1 y hy]
  simp only [e]
  exact wrap_u32 (by omega) (by omega)

theorem or_add (a i b : Nat) (h : b < 2 ^ i) : a * 2 ^ i ||| b = a * 2 ^ i + b := by
  have := Nat.shiftLeft_add_eq_or_of_lt h a
  rw [Nat.shiftLeft_eq] at this
  exact this.symm

theorem read2 {X Y : Nat} (hx : X < 256) (hy : Y < 256) : bits .or .i64 (IntKind.i64.wrap (IntKind.i64.wrap (X : Int) * 256)) (IntKind.i64.wrap (Y : Int)) = ((X * 256 + Y : Nat) : Int) := by
  have e1 : IntKind.i64.wrap (X : Int) = X := IntWalk.i64_in _ (by omega)
  have e2 : IntKind.i64.wrap ((X : Int) * 256) = ((X * 256 : Nat) : Int) := by rw [IntWalk.i64_in _ (by omega)]; omega
  have e3 : IntKind.i64.wrap (Y : Int) = Y := IntWalk.i64_in _ (by omega)
  rw [e1, e2, e3, or_i64 (by omega) (by omega), show X * 256 = X * 2 ^ 8 from rfl, or_add X 8 Y (by omega)]

theorem read4 {A B C D : Nat} (ha : A < 256) (hb : B < 256) (hc : C < 256) (hd : D < 256) :
    bits .or .u32 (bits .or .u32 (bits .or .u32 (IntKind.u32.wrap (IntKind.u32.wrap (A : Int) * 16777216)) (IntKind.u32.wrap (IntKind.u32.wrap (B : Int) * 65536))) (IntKind.u32.wrap (IntKind.u32.wrap (C : Int) * 256))) (IntKind.u32.wrap (D : Int)) = ((A * 16777216 + B * 65536 + C * 256 + D : Nat) : Int) := by
  have w : ∀ X : Nat, X < 4294967296 → IntKind.u32.wrap (X : Int) = X := fun X h => wrap_u32 (by omega) (by omega)
  have e1 : IntKind.u32.wrap (IntKind.u32.wrap (A : Int) * 16777216) = ((A * 16777216 : Nat) : Int) := by rw [w A (by omega), show (A : Int) * 16777216 = ((A * 16777216 : Nat) : Int) by omega, w _ (by omega)]
  have e2 : IntKind.u32.wrap (IntKind.u32.wrap (B : Int) * 65536) = ((B * 65536 : Nat) : Int) := by rw [w B (by omega), show (B : Int) * 65536 = ((B * 65536 : Nat) : Int) by omega, w _ (by omega)]
  have e3 : IntKind.u32.wrap (IntKind.u32.wrap (C : Int) * 256) = ((C * 256 : Nat) : Int) := by rw [w C (by omega), show (C : Int) * 256 = ((C * 256 : Nat) : Int) by omega, w _ (by omega)]
  rw [e1, e2, e3, w D (by omega)]
  have o1 : A * 16777216 ||| B * 65536 = A * 16777216 + B * 65536 := by rw [show A * 16777216 = A * 2 ^ 24 from rfl, or_add A 24 _ (by omega)]
  rw [or_u32 (by omega) (by omega), o1]
  have o2 : (A * 16777216 + B * 65536) ||| C * 256 = A * 16777216 + B * 65536 + C * 256 := by
    rw [show A * 16777216 + B * 65536 = (A * 256 + B) * 2 ^ 16 by omega, or_add _ 16 _ (by omega)]
  rw [or_u32 (by omega) (by omega), o2]
  have o3 : (A * 16777216 + B * 65536 + C * 256) ||| D = A * 16777216 + B * 65536 + C * 256 + D := by
    rw [show A * 16777216 + B * 65536 + C * 256 = (A * 65536 + B * 256 + C) * 2 ^ 8 by omega, or_add _ 8 _ (by omega)]
  rw [or_u32 (by omega) (by omega), o3]

theorem wrap_sgn (n : Nat) (h : n < 4294967296) : IntKind.i32.wrap (n : Int) = sgn n := by
  unfold IntKind.wrap sgn
  have e : (n : Int) % (2 ^ IntKind.i32.bits : Int) = n := Int.emod_eq_of_lt (by omega) (by show (n : Int) < 2 ^ 32; omega)
  rw [e]
  by_cases q : n < 2147483648
  · rw [if_pos q, if_neg]
    simp only [IntKind.signed, Bool.true_and, decide_eq_true_eq]
    show ¬ (n : Int) ≥ 2 ^ 31
    omega
  · rw [if_neg q, if_pos]
    · show (n : Int) - 2 ^ 32 = _
      omega
    · simp only [IntKind.signed, Bool.true_and, decide_eq_true_eq]
      show (n : Int) ≥ 2 ^ 31
      omega

theorem wrap_u32_mod (n : Int) : IntKind.u32.wrap n = n % 4294967296 := by
  unfold IntKind.wrap
  simp only [IntKind.signed, IntKind.bits, Bool.false_and, Bool.false_eq_true, if_false]
  rfl

theorem read4' {A B C D : Nat} (ha : A < 256) (hb : B < 256) (hc : C < 256) (hd : D < 256) :
    bits .or .u32 (bits .or .u32 (bits .or .u32 ((A : Int) % 4294967296 * 16777216 % 4294967296) ((B : Int) % 4294967296 * 65536 % 4294967296)) ((C : Int) % 4294967296 * 256 % 4294967296)) ((D : Int) % 4294967296) = ((A * 16777216 + B * 65536 + C * 256 + D : Nat) : Int) := by
  have h := read4 ha hb hc hd
  simp only [wrap_u32_mod] at h
  exact h

theorem wrap32_sgn (n : Nat) (h : n < 4294967296) : wrap32 (n : Int) = sgn n := by
  unfold wrap32 sgn
  split <;> omega

theorem sgn_bd (n : Nat) (h : n < 4294967296) : -2147483648 ≤ sgn n ∧ sgn n ≤ 2147483647 := by
  unfold sgn
  split <;> omega

theorem val4_lt (l : Bs) : val4 l < 4294967296 := by
  unfold val4
  have := byte_lt (l.getD 0 0)
  have := byte_lt (l.getD 1 0)
  have := byte_lt (l.getD 2 0)
  have := byte_lt (l.getD 3 0)
  omega

end Go.Proofs.YtdbkkfhneafeiaaDoor
