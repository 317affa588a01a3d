/-
  What is told of calls and results, as plain lists of bytes.
-/
import Derived.Test.YtdbkkfhneafeiaaDoorCode1
import Derived.Lib.Join
namespace Go.Proofs.YtdbkkfhneafeiaaDoor
open Go
set_option linter.unusedSectionVars false
set_option linter.unusedSimpArgs false
set_option linter.unusedVariables false

/-- A digit of sixteen. -/
def digC (n : Nat) : UInt8 := if n < 10 then byte (48 + n) else byte (87 + n)

def shown1 (c : UInt8) : Bs := if 32 < c.toNat ∧ c.toNat < 127 ∧ c.toNat ≠ 37 then [c] else [37, digC (c.toNat / 16), digC (c.toNat % 16)]

/-- Bytes as they are told. -/
def shownP (s : Bs) : Bs := s.flatMap shown1

theorem shown1_len (c : UInt8) : (shown1 c).length ≤ 3 := by
  unfold shown1
  split <;> simp

theorem shownP_len (s : Bs) : (shownP s).length ≤ 3 * s.length := by
  induction s with
  | nil => simp [shownP]
  | cons c r ih =>
    have h := shown1_len c
    unfold shownP at *
    rw [List.flatMap_cons, List.length_append, List.length_cons]
    omega

theorem shownP_snoc (s : Bs) (k : Nat) {c : UInt8} (h : s[k]? = some c) : shownP (s.take (k + 1)) = shownP (s.take k) ++ shown1 c := by
  unfold shownP
  rw [List.take_add_one, h, List.flatMap_append]
  simp

/-- Words, parted by blanks. -/
def lineText (L : List Bs) (name s : Bs) : List Bs := if s = [] then L else L ++ [name ++ shownP s]
def lineNum (L : List Bs) (name : Bs) (z : Int) (t : Bs) : List Bs := if z = 0 then L else L ++ [name ++ t]

end Go.Proofs.YtdbkkfhneafeiaaDoor
