/-
  Where a key's chain begins; where a key hangs.
-/
import Derived.Test.YtkdpkmlmkholmaaChain0
import Derived.Deep.RegionWith
import Derived.Deep.QuietTactic
import Derived.BigQuiet
import Derived.Deep.Cut
namespace Go.Proofs.Ytkdpkmlmkholmaa
open Go Go.RowKit
set_option linter.unusedSectionVars false
set_option linter.unusedSimpArgs false
set_option linter.unusedVariables false

theorem str_ne {a b : ByteArray} (h : a ≠ b) : (a.toList == b.toList) = false := by
  rw [beq_eq_false_iff_ne]
  intro e
  rw [ByteArray.toList_eq, ByteArray.toList_eq] at e
  obtain ⟨⟨x⟩⟩ := a
  obtain ⟨⟨y⟩⟩ := b
  exact h (by simpa using e)

/-- The keys of chain i of m. -/
def inChain (m i : Nat) (x : Pair) : Bool := decide (hashOf x.1 % m = i)
def chainOf (T : List Pair) (m i : Nat) : List Pair := (T.filter (inChain m i)).reverse
def bucket (m : Nat) (key : ByteArray) : Nat := (hashOf key % m).toNat

theorem bucket_lt {m : Nat} (key : ByteArray) (hm : 1 ≤ m) : bucket m key < m := by
  unfold bucket
  have h1 := Int.emod_nonneg (hashOf key) (b := m) (by omega)
  have h2 := Int.emod_lt_of_pos (hashOf key) (b := m) (by omega)
  omega

structure TabMem (w : World) (tb cb m n : Nat) (hd : Nat → Option Nat) : Prop where
  t : w.heap[tb]? = some (.cells #[.slice (some ⟨cb, 0, none⟩) m m, .int .i64 n] 58 (0, 0))
  c : w.heap[cb]? = some (.cells ((List.range m).map fun i => pnt (hd i)).toArray 64 (0, 0))

theorem TabMem.head {w : World} {tb cb m n : Nat} {hd : Nat → Option Nat} (h : TabMem w tb cb m n hd) {i : Nat} (hi : i < m) : w.cell? ⟨cb, i, none⟩ = some (pnt (hd i)) := by
  rw [cell_blk h.c]
  simp [hi]

set_option maxRecDepth 4000 in
set_option maxHeartbeats 1000000 in
theorem chain_c {w : World} {tb cb m n : Nat} {hd : Nat → Option Nat} (h : TabMem w tb cb m n hd) (h0 : 1 ≤ m) (h1 : m ≤ 64) (key : ByteArray) (hs : key.size ≤ 9223372036854775807) :
    Calls Try.prog 31 #[.pointer (some ⟨tb, 0, none⟩), .string key] w fun r w' => r = .returned (.pointer (some ⟨cb, bucket m key, none⟩)) ∧ ∃ q, w' = w.drewN q := by
  have c0 : w.cell? ⟨tb, 0, none⟩ = some (.slice (some ⟨cb, 0, none⟩) m m) := by rw [cell_blk h.t]; rfl
  have hb := bucket_lt key h0
  have hh := hashOf_lt key
  unfold bucket at *
  have hc := hash_c key
  generalize hashOf key = H at *
  have e1 : (m : Int) % 4294967296 = m := by omega
  have e2 : H.tmod m = H % m := Int.tmod_eq_emod_of_nonneg (by omega)
  have e3 : 0 ≤ H % m := Int.emod_nonneg _ (by omega)
  have e4 : H % m < m := Int.emod_lt_of_pos _ (by omega)
  clear h
  go_enter Try.func31, Try.ntmps31
  go_wp2
  go_quiet (first | (go_at_call 24; refine Calls.quiet_of_same ((hc _ hs).mono fun e w1 q => ⟨q.1, q.2.symm⟩)))
  go_wp2
  go_ret
  exact ⟨rfl, _, rfl⟩

/-- The place that leads to what stands behind pre. -/
def Place (cb i : Nat) (pre : List (Nat × Pair)) (pb po : Nat) : Prop := (pre = [] ∧ pb = cb ∧ po = i) ∨ ∃ z pre', pre = pre' ++ [z] ∧ pb = z.1 ∧ po = 2

def Found (w : World) (cb i : Nat) (key : ByteArray) (L : List (Nat × Pair)) (p : Option Addr) : Prop :=
  (p = none ∧ ∀ x ∈ L, x.2.1 ≠ key) ∨ ∃ pre x rest pb po, L = pre ++ x :: rest ∧ (∀ y ∈ pre, y.2.1 ≠ key) ∧ x.2.1 = key ∧ p = some ⟨pb, po, none⟩ ∧ Place cb i pre pb po ∧ w.cell? ⟨pb, po, none⟩ = some (pnt (some x.1)) ∧ Seg w (some x.1) (x :: rest)

set_option maxHeartbeats 1000000 in
theorem find_c {w : World} {tb cb m n : Nat} {hd : Nat → Option Nat} (h : TabMem w tb cb m n hd) (h0 : 1 ≤ m) (h1 : m ≤ 64) (key : ByteArray) (hs : key.size ≤ 9223372036854775807) {L : List (Nat × Pair)} (hL : Seg w (hd (bucket m key)) L) :
    Calls Try.prog 29 #[.pointer (some ⟨tb, 0, none⟩), .string key] w fun r w' => ∃ p, r = .returned (.pointer p) ∧ Found w cb (bucket m key) key L p ∧ ∃ q, w' = w.drewN q := by
  have hb := bucket_lt key h0
  have hc := chain_c h h0 h1 key hs
  have hh := h.head hb
  generalize bucket m key = i at *
  clear h
  have HL := Lib.hid (And.intro hL hh)
  clear hL hh
  go_enter Try.func29, Try.ntmps29
  go_wp2_with (
    go_at_call 31
    refine hc.mono ?_
    rintro e w1 ⟨rfl, q, rfl⟩)
  go_loopg [5] L.length (fun g p wr => ∃ (pre rest : List (Nat × Pair)) (pb po : Nat) (o : Option Nat), p = .pointer (some ⟨pb, po, none⟩) ∧ g = rest.length ∧ L = pre ++ rest ∧ (∀ y ∈ pre, y.2.1 ≠ key) ∧ Seg w o rest ∧ w.cell? ⟨pb, po, none⟩ = some (pnt o) ∧ Place cb i pre pb po ∧ wr = w.drewN q)
  case atStart => exact ⟨[], L, cb, i, hd i, rfl, rfl, rfl, by simp, HL.out.1, HL.out.2, .inl ⟨rfl, rfl, rfl⟩, rfl⟩
  case round =>
    obtain ⟨pre, rest, pb, po, o, rfl, rfl, hpr, hne, hseg, hcell, hpl, rfl⟩ := hrel
    cases rest with
    | nil =>
      obtain rfl : o = none := hseg
      have A := Lib.hid (And.intro hpr hne)
      clear hpr hne hpl
      unfold pnt at hcell
      simp only [Option.map_none] at hcell
      go_wp2
      go_ret
      exact ⟨none, rfl, .inl ⟨rfl, by have := A.out.1; simp at this; subst this; exact A.out.2⟩, q, rfl⟩
    | cons x r =>
      have hseg' := hseg
      obtain ⟨rfl, o', hx, hr⟩ := hseg
      have A := Lib.hid (And.intro hpr (And.intro hne (And.intro hseg' (And.intro hcell (And.intro hpl hr)))))
      have c0 : w.cell? ⟨x.1, 0, none⟩ = some (.string x.2.1) := by rw [cell_blk hx]; rfl
      have c2 : w.cell? ⟨x.1, 2, none⟩ = some (pnt o') := by rw [cell_blk hx]; rfl
      unfold pnt at hcell
      simp only [Option.map_some] at hcell
      clear hpr hne hpl hseg' hr hx
      by_cases hk : x.2.1 = key
      · go_wp2
        go_ret
        exact ⟨_, rfl, .inr ⟨pre, x, r, pb, po, A.out.1, A.out.2.1, hk, rfl, A.out.2.2.2.2.1, A.out.2.2.2.1, A.out.2.2.1⟩, q, rfl⟩
      · have g1 : (x.2.1.toList == key.toList) = false := str_ne hk
        go_wp2
        go_roundg r.length
        case measure => simp
        case rel =>
          refine ⟨pre ++ [x], r, x.1, 2, o', rfl, rfl, by rw [A.out.1]; simp, ?_, A.out.2.2.2.2.2, c2, .inr ⟨x, pre, rfl, rfl, rfl⟩, rfl⟩
          intro y hy
          rcases List.mem_append.1 hy with hy | hy
          · exact A.out.2.1 y hy
          · simp at hy; subst hy; exact hk

end Go.Proofs.Ytkdpkmlmkholmaa
