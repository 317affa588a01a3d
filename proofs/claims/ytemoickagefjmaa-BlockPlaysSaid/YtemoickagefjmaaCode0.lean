/-
  Calls as bytes: the plain functions.
-/
import Derived.Test.YtemoickagefjmaaB8
namespace Go.Proofs.Ytemoickagefjmaa
open Go Go.RowKit
set_option linter.unusedSectionVars false
set_option linter.unusedSimpArgs false
set_option linter.unusedVariables false

/-- A call. -/
structure CallV where
  op : Int
  path : ByteArray
  to : ByteArray
  fd : Int
  flags : Int
  mode : Int
  n : Int
  m : Int
  data : Bs

def CallV.none : CallV := ⟨0, ⟨#[]⟩, ⟨#[]⟩, 0, 0, 0, 0, 0, []⟩

def smallB (n : Int) : Bool := decide (-2147483648 ≤ n ∧ n ≤ 2147483647)

def CallV.smalls (c : CallV) : Bool := smallB c.fd && smallB c.flags && smallB c.mode && smallB c.n && smallB c.m

/-- Why it may not be written. -/
def CallV.right (c : CallV) : Int :=
  if c.op < 1 ∨ 20 < c.op ∨ c.smalls = false then 1
  else if 5000 < c.path.size ∨ 5000 < c.to.size ∨ 2000 < c.data.length then 3 else 0

def byte (n : Nat) : UInt8 := UInt8.ofNat n
def be2 (n : Nat) : Bs := [byte (n / 256), byte n]
def txt (l : Bs) : Bs := be2 l.length ++ l
def u32 (n : Int) : Nat := (n % 4294967296).toNat
def be4 (n : Int) : Bs := [byte (u32 n / 16777216), byte (u32 n / 65536), byte (u32 n / 256), byte (u32 n)]

def CallV.nums (c : CallV) : Bs := be4 c.fd ++ be4 c.flags ++ be4 c.mode ++ be4 c.n ++ be4 c.m
def CallV.enc (c : CallV) : Bs := byte c.op.toNat :: (txt (bsOf c.path) ++ txt (bsOf c.to) ++ c.nums ++ txt c.data)

/-! ### reading -/

def val2 (l : Bs) : Nat := (l.getD 0 0).toNat * 256 + (l.getD 1 0).toNat
def val4 (l : Bs) : Nat := (l.getD 0 0).toNat * 16777216 + (l.getD 1 0).toNat * 65536 + (l.getD 2 0).toNat * 256 + (l.getD 3 0).toNat
def sgn (n : Nat) : Int := if n < 2147483648 then (n : Int) else (n : Int) - 4294967296

/-- A reader: where it stands; none: there was not enough. -/
abbrev St := Option Nat

def takeS (b : Bs) (s : St) (n : Nat) : Bs × St :=
  match s with
  | some p => if p + n ≤ b.length then ((b.drop p).take n, some (p + n)) else ([], none)
  | none => ([], none)

def textS (b : Bs) (s : St) : Bs × St :=
  match takeS b s 2 with
  | (l, some p) => takeS b (some p) (val2 l)
  | (_, none) => ([], none)

def fourS (b : Bs) (s : St) : Int × St :=
  match takeS b s 4 with
  | (l, some p) => (sgn (val4 l), some p)
  | (_, none) => (0, none)

def opS (b : Bs) (s : St) : Int × St :=
  match takeS b s 1 with
  | (l, some p) => (((l.getD 0 0).toNat : Int), some p)
  | (_, none) => (0, none)

/-- All of a call's parts, one behind the other. -/
def callS (b : Bs) : CallV × St :=
  let (op, s) := opS b (some 0)
  let (path, s) := textS b s
  let (to, s) := textS b s
  let (fd, s) := fourS b s
  let (flags, s) := fourS b s
  let (mode, s) := fourS b s
  let (n, s) := fourS b s
  let (m, s) := fourS b s
  let (data, s) := textS b s
  (⟨op, strB path, strB to, fd, flags, mode, n, m, data⟩, s)

/-- What is read: the call, how many bytes it has, why not. -/
def decC (b : Bs) : CallV × Nat × Int :=
  match callS b with
  | (_, none) => (CallV.none, 0, 10)
  | (c, some p) => if c.right = 0 then (c, p, 0) else (CallV.none, 0, c.right)

theorem takeS_some {b : Bs} {p n : Nat} (h : p + n ≤ b.length) : takeS b (some p) n = ((b.drop p).take n, some (p + n)) := by simp [takeS, h]
theorem takeS_short {b : Bs} {p n : Nat} (h : ¬ p + n ≤ b.length) : takeS b (some p) n = ([], none) := by simp [takeS, h]
theorem takeS_none {b : Bs} {n : Nat} : takeS b none n = ([], none) := rfl

theorem takeS_le {b : Bs} {s : St} {n p : Nat} (h : (takeS b s n).2 = some p) : p ≤ b.length := by
  cases s with
  | none => simp [takeS] at h
  | some q =>
    unfold takeS at h
    simp only at h
    split at h
    · simp at h; omega
    · simp at h

theorem takeS_len {b : Bs} {s : St} {n p : Nat} (h : (takeS b s n).2 = some p) : (takeS b s n).1.length = n := by
  cases s with
  | none => simp [takeS] at h
  | some q =>
    unfold takeS at h ⊢
    simp only at h ⊢
    split at h
    · rename_i hq
      rw [if_pos hq]
      simp only [List.length_take, List.length_drop]
      omega
    · simp at h

theorem takeS_size (b : Bs) (s : St) (n : Nat) : (takeS b s n).1.length ≤ n := by
  cases s with
  | none => simp [takeS]
  | some q =>
    unfold takeS
    simp only
    split
    · simp only [List.length_take]; omega
    · simp

theorem byte_lt (u : UInt8) : u.toNat < 256 := u.toNat_lt
theorem val2_lt (l : Bs) : val2 l < 65536 := by
  unfold val2
  have := byte_lt (l.getD 0 0)
  have := byte_lt (l.getD 1 0)
  omega

theorem textS_size (b : Bs) (s : St) : (textS b s).1.length ≤ 65535 := by
  unfold textS
  split
  · rename_i l p _
    have := takeS_size b (some p) (val2 l)
    have := val2_lt l
    omega
  · simp

end Go.Proofs.Ytemoickagefjmaa
