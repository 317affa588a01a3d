/-
  LruPins: what is pinned as often as unpinned may go, what is pinned more often may not; Drop forgets the pins.
-/
import Derived.Test.YtfmdhbcniabpiaaLru6
import Derived.Test.YtfmdhbcniabpiaaLru7
import Derived.Test.YtfmdhbcniabpiaaWithin
import Derived.Deep.CutRange
import Derived.Deep.CutBlock
import Derived.Deep.DeepCutAuto
namespace Go.Proofs.Ytfmdhbcniabpiaa
open Go Go.RowKit
set_option linter.unusedSectionVars false
set_option linter.unusedSimpArgs false
set_option linter.unusedVariables false

abbrev aS : ByteArray := ⟨#[97]⟩
def oneL (p : Int) : List Pair := [(aS, p)]

theorem one_get (p : Int) : aget (oneL p) aS = some p := by simp [oneL, aget]
theorem one_pin (p : Int) (h : 0 ≤ p) : setPins (oneL p) aS 1 = (oneL (p + 1), true) := by
  unfold setPins
  rw [one_get]
  simp only
  rw [if_neg (by omega)]
  simp [oneL, aset]
theorem one_unpin0 : setPins (oneL 0) aS (-1) = (oneL 0, false) := by
  unfold setPins
  rw [one_get]
  simp
theorem one_unpin (p : Int) (h : 0 < p) : setPins (oneL p) aS (-1) = (oneL (p - 1), true) := by
  unfold setPins
  rw [one_get]
  simp only
  rw [if_neg (by omega)]
  simp [oneL, aset]
  omega
theorem one_drop (p : Int) : adel (oneL p) aS = [] := by simp [oneL, adel]
theorem one_use : useE 4 [] aS = (oneL 0, ByteArray.empty, false) := by kernel_rfl
theorem one_gone0 : gone (oneL 0) 5 = [aS] := by kernel_rfl
theorem one_gone (p : Int) (h : p ≠ 0) : gone (oneL p) 5 = [] := by simp [gone, looseL, oneL, List.filter_cons, h]

theorem one_bd (p : Int) (h : 0 ≤ p) (h2 : p ≤ 1000) : ∀ q, aget (oneL p) aS = some q → 0 ≤ q ∧ q ≤ 1000000 := by
  intro q e
  rw [one_get] at e
  simp at e
  omega

set_option maxRecDepth 100000 in
set_option maxHeartbeats 4000000 in
theorem pins_walk (x y : Int) (again : Bool) (w : World) :
    Calls Try.prog 4 #[.int .i64 x, .int .i64 y, .bool again] w fun r w' => r = .returned (.bool true) ∧ Below w.heap.size w w' := by
  have hnew := new_c w 4 (by omega) (by omega)
  go_enter Try.func4, Try.ntmps4
  go_wp2_with fail
  refine hnew.mono ?_
  rintro e w2 ⟨lb, S1, rfl, hL1, hT1⟩
  have B1 := Lib.hid (And.intro hL1 hT1)
  have hu := use_c hL1 (by simp) aS
  rw [one_use] at hu
  clear hL1 hT1 hnew
  go_wp2_with fail
  refine (within_c _ _ 0 10 (by omega) (by omega) (by omega)).mono ?_
  rintro e w3 ⟨p0, hp0, hp1, rfl, rfl⟩
  obtain ⟨p, rfl⟩ : ∃ p : Nat, p0 = (p : Int) := ⟨p0.toNat, by omega⟩
  go_wp2_with fail
  refine (within_c _ _ 0 12 (by omega) (by omega) (by omega)).mono ?_
  rintro e w3 ⟨u0, hu0, hu1, rfl, rfl⟩
  obtain ⟨u, rfl⟩ : ∃ p : Nat, u0 = (p : Int) := ⟨u0.toNat, by omega⟩
  go_wp2_with fail
  refine hu.mono ?_
  rintro e w4 ⟨rfl, S2, hL2, hT2⟩
  have B2 := Lib.hid (And.intro hL2 (B1.out.2.trans hT2))
  clear hL2 hT2 hu B1
  go_upto_block 0 with (fail)
  go_cut [] from 9 to 35 (fun wx => ∃ S, ListAt wx lb S 4 (oneL p) ∧ Turn w (fun _ => False) wx S)
  case first =>
    go_wp2_with fail
    go_loopg [9] p (fun g s9 wr => ∃ (j : Nat) (S : Nat → Prop), s9 = .int .i64 j ∧ j + g = p ∧ ListAt wr lb S 4 (oneL j) ∧ Turn w (fun _ => False) wr S)
    case atStart => exact ⟨0, S2, rfl, by omega, B2.out.1, B2.out.2⟩
    case round =>
      obtain ⟨j, S, rfl, hj, hL, hT⟩ := hrel
      have B := Lib.hid (And.intro hL hT)
      have hpn := Pin_c hL (by simp [oneL]) aS (one_bd j (by omega) (by omega))
      rw [one_pin _ (by omega)] at hpn
      clear hL hT
      by_cases hlt : j < p
      · have g1 : (j : Int) < (p : Int) := by omega
        go_wp2_with (
          go_at_call 15
          refine hpn.mono ?_
          rintro e w5 ⟨rfl, h1, h2⟩
          have N := Lib.hid (And.intro h1 (B.out.2.trans ⟨h2, fun b q => .inl q⟩))
          clear hpn h1 h2)
        go_roundg (p - (j + 1))
        case measure => omega
        case rel => exact ⟨j + 1, S, rfl, by omega, N.out.1, N.out.2⟩
      · have g1 : ¬ (j : Int) < (p : Int) := by omega
        obtain rfl : j = p := by omega
        go_wp2
        go_meet
        case rel => exact ⟨S, B.out.1, B.out.2⟩
  case rest =>
    obtain ⟨S, hL, hT⟩ := hcut
    have B := Lib.hid (And.intro hL hT)
    clear hL hT
    go_upto_block 2 with (fail)
    go_cut [] from 10 to 46 (fun wx => ∃ S, ListAt wx lb S 4 (oneL ((p - u : Nat) : Int)) ∧ Turn w (fun _ => False) wx S)
    case first =>
      go_wp2_with fail
      go_loopg [10] u (fun g s10 wr => ∃ (j : Nat) (S : Nat → Prop), s10 = .int .i64 j ∧ j + g = u ∧ ListAt wr lb S 4 (oneL ((p - j : Nat) : Int)) ∧ Turn w (fun _ => False) wr S)
      case atStart => exact ⟨0, S, rfl, by omega, B.out.1, B.out.2⟩
      case round =>
        obtain ⟨j, S3, rfl, hj, hL, hT⟩ := hrel
        have C := Lib.hid (And.intro hL hT)
        have hpn := Unpin_c hL (by simp [oneL]) aS (one_bd _ (by omega) (by omega))
        clear hL hT
        by_cases hlt : j < u
        · have g1 : (j : Int) < (u : Int) := by omega
          by_cases hjp : j < p
          · have g2 : (j : Int) < (p : Int) := by omega
            rw [one_unpin _ (by omega), show (((p - j : Nat) : Int) - 1) = ((p - (j + 1) : Nat) : Int) by omega] at hpn
            go_wp2_with (
              go_at_call 16
              refine hpn.mono ?_
              rintro e w5 ⟨rfl, h1, h2⟩
              have N := Lib.hid (And.intro h1 (C.out.2.trans ⟨h2, fun b q => .inl q⟩))
              clear hpn h1 h2)
            go_roundg (u - (j + 1))
            case measure => omega
            case rel => exact ⟨j + 1, S3, rfl, by omega, N.out.1, N.out.2⟩
          · have g2 : ¬ (j : Int) < (p : Int) := by omega
            rw [show ((p - j : Nat) : Int) = 0 by omega, one_unpin0] at hpn
            go_wp2_with (
              go_at_call 16
              refine hpn.mono ?_
              rintro e w5 ⟨rfl, h1, h2⟩
              have N := Lib.hid (And.intro h1 (C.out.2.trans ⟨h2, fun b q => .inl q⟩))
              clear hpn h1 h2)
            go_roundg (u - (j + 1))
            case measure => omega
            case rel => exact ⟨j + 1, S3, rfl, by omega, by rw [show ((p - (j + 1) : Nat) : Int) = 0 by omega]; exact N.out.1, N.out.2⟩
        · have g1 : ¬ (j : Int) < (u : Int) := by omega
          obtain rfl : j = u := by omega
          go_wp2
          go_meet
          case rel => exact ⟨S3, C.out.1, C.out.2⟩
    case rest =>
      obtain ⟨S4, hL, hT⟩ := hcut
      have C := Lib.hid (And.intro hL hT)
      have hdr := drop_c hL (by simp [oneL]) aS
      rw [one_drop] at hdr
      clear hL hT B B2
      cases again with
      | true =>
        go_wp2_with (first
          | (go_at_call 17
             refine hdr.mono ?_
             rintro e w6 ⟨rfl, h1, h2⟩
             have N6 := Lib.hid (And.intro h1 (C.out.2.trans ⟨h2, fun b q => .inl q⟩))
             have hus := use_c h1 (by simp) aS
             rw [one_use] at hus
             clear hdr h1 h2)
          | (go_at_call 10
             refine hus.mono ?_
             rintro e w7 ⟨rfl, S7, h1, h2⟩
             have N7 := Lib.hid (And.intro h1 (N6.out.2.trans h2))
             have hsh := shrink_c h1 (by simp [oneL]) 5
             rw [one_gone0] at hsh
             clear hus h1 h2)
          | (go_at_call 18
             refine hsh.mono ?_
             rintro e w8 ⟨v8, rfl, h1, h2, h3, h4⟩
             obtain ⟨a8, cap8, rfl, _⟩ := rows_val2 h3
             have N8 := Lib.hid (And.intro h1 h2)
             have hha := has_c h1 (by simp [dropAll, oneL, adel]) aS
             rw [show aget (dropAll (oneL 0) [aS]) aS = none from by simp [dropAll, oneL, adel, aget]] at hha
             clear hsh h1 h2 h3 h4)
          | (go_at_call 19
             refine hha.mono ?_
             rintro e w9 ⟨rfl, h1⟩
             have N9 := Lib.hid h1
             clear hha h1)
          | (go_at_call 14
             refine (known_c _).mono ?_
             rintro e w10 ⟨rfl, h1⟩
             have N10 := Lib.hid h1
             clear h1))
        go_ret
        exact ⟨rfl, (((N7.out.2.keep.trans N8.out.2 (fun b q => (N7.out.2.new b q).elim (fun z => z.elim) .inr)).trans N9.out (fun _ q => q.elim)).trans N10.out (fun _ q => q.elim)).below (Nat.le_refl _) (fun _ q => q.elim)⟩
      | false =>
        by_cases hq : p ≤ u
        · have hsh := shrink_c C.out.1 (by simp [oneL]) 5
          have g1 : (p : Int) ≤ (u : Int) := by omega
          rw [show ((p - u : Nat) : Int) = 0 by omega] at hsh
          rw [one_gone0] at hsh
          clear hdr
          go_wp2_with (first
          | (go_at_call 17
             refine hdr.mono ?_
             rintro e w6 ⟨rfl, h1, h2⟩
             have N6 := Lib.hid (And.intro h1 (C.out.2.trans ⟨h2, fun b q => .inl q⟩))
             have hus := use_c h1 (by simp) aS
             rw [one_use] at hus
             clear hdr h1 h2)
          | (go_at_call 10
             refine hus.mono ?_
             rintro e w7 ⟨rfl, S7, h1, h2⟩
             have N7 := Lib.hid (And.intro h1 (N6.out.2.trans h2))
             have hsh := shrink_c h1 (by simp [oneL]) 5
             rw [one_gone0] at hsh
             clear hus h1 h2)
          | (go_at_call 18
             refine hsh.mono ?_
             rintro e w8 ⟨v8, rfl, h1, h2, h3, h4⟩
             obtain ⟨a8, cap8, rfl, _⟩ := rows_val2 h3
             have N8 := Lib.hid (And.intro h1 h2)
             have hha := has_c h1 (by simp [dropAll, oneL, adel]) aS
             rw [show aget (dropAll (oneL 0) [aS]) aS = none from by simp [dropAll, oneL, adel, aget]] at hha
             clear hsh h1 h2 h3 h4)
          | (go_at_call 19
             refine hha.mono ?_
             rintro e w9 ⟨rfl, h1⟩
             have N9 := Lib.hid h1
             clear hha h1)
          | (go_at_call 14
             refine (known_c _).mono ?_
             rintro e w10 ⟨rfl, h1⟩
             have N10 := Lib.hid h1
             clear h1))
          go_ret
          exact ⟨rfl, (((C.out.2.keep.trans N8.out.2 (fun b q => (C.out.2.new b q).elim (fun z => z.elim) .inr)).trans N9.out (fun _ q => q.elim)).trans N10.out (fun _ q => q.elim)).below (Nat.le_refl _) (fun _ q => q.elim)⟩
        · have hsh := shrink_c C.out.1 (by simp [oneL]) 5
          have g1 : ¬ (p : Int) ≤ (u : Int) := by omega
          obtain ⟨Q, hQ⟩ : ∃ Q, Q = ((p - u : Nat) : Int) := ⟨_, rfl⟩
          rw [← hQ] at hsh
          rw [one_gone Q (by omega)] at hsh
          clear hdr hQ
          go_wp2_with (first
          | (go_at_call 17
             refine hdr.mono ?_
             rintro e w6 ⟨rfl, h1, h2⟩
             have N6 := Lib.hid (And.intro h1 (C.out.2.trans ⟨h2, fun b q => .inl q⟩))
             have hus := use_c h1 (by simp) aS
             rw [one_use] at hus
             clear hdr h1 h2)
          | (go_at_call 10
             refine hus.mono ?_
             rintro e w7 ⟨rfl, S7, h1, h2⟩
             have N7 := Lib.hid (And.intro h1 (N6.out.2.trans h2))
             have hsh := shrink_c h1 (by simp [oneL]) 5
             rw [one_gone0] at hsh
             clear hus h1 h2)
          | (go_at_call 18
             refine hsh.mono ?_
             rintro e w8 ⟨v8, rfl, h1, h2, h3, h4⟩
             obtain ⟨a8, cap8, rfl, _⟩ := rows_val2 h3
             have N8 := Lib.hid (And.intro h1 h2)
             have hha := has_c h1 (by simp [dropAll, oneL]) aS
             rw [show aget (dropAll (oneL Q) []) aS = some Q from by simp [dropAll, oneL, aget]] at hha
             clear hsh h1 h2 h3 h4)
          | (go_at_call 19
             refine hha.mono ?_
             rintro e w9 ⟨rfl, h1⟩
             have N9 := Lib.hid h1
             clear hha h1)
          | (go_at_call 14
             refine (known_c _).mono ?_
             rintro e w10 ⟨rfl, h1⟩
             have N10 := Lib.hid h1
             clear h1))
          go_ret
          exact ⟨rfl, (((C.out.2.keep.trans N8.out.2 (fun b q => (C.out.2.new b q).elim (fun z => z.elim) .inr)).trans N9.out (fun _ q => q.elim)).trans N10.out (fun _ q => q.elim)).below (Nat.le_refl _) (fun _ q => q.elim)⟩

theorem pins_row (x y : Int) (again : Bool) (w : World) (_ : (Lit.int .i64 x).wf = true) (_ : (Lit.int .i64 y).wf = true) :
    Calls Try.prog 4 #[.int .i64 x, .int .i64 y, .bool again] w fun r w' => r = .returned (.bool true) ∧ Below w.heap.size w w' := pins_walk x y again w

end Go.Proofs.Ytfmdhbcniabpiaa
