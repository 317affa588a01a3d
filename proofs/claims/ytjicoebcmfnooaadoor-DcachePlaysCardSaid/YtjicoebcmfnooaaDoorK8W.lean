/-
  The document's key, walked.
-/
import Derived.Test.YtjicoebcmfnooaaDoorK8
import Derived.Deep.RegionLaw
import Derived.IntWalk
namespace Go.Proofs.YtjicoebcmfnooaaDoor
open Go Go.RowKit
set_option linter.unusedSectionVars false
set_option linter.unusedSimpArgs false
set_option linter.unusedVariables false
set_option maxRecDepth 100000

theorem rkey_c (x : Nm) (hx : InR x) (hs : x.2.size ≤ 9000000000000000000) (w : World) :
    Calls Tryd.prog 31 #[.int .i64 x.1, .string x.2] w fun e w' => e = .returned (.string (k8 x)) ∧ Keep w w' (fun _ => False) := by
  obtain ⟨i0, hi0, hi1, hi2⟩ := u8_inf
  have HI := Lib.hid (And.intro hi0 (And.intro hi1 hi2))
  clear hi0 hi1 hi2
  obtain ⟨d, s⟩ := x
  obtain ⟨hx1, hx2⟩ := hx
  simp only at hx1 hx2 hs
  obtain ⟨u, hu⟩ : ∃ u, u = u64N d := ⟨_, rfl⟩
  have hub : u < 18446744073709551616 := by rw [hu]; unfold u64N; omega
  have hwr : IntKind.u64.wrap d = (u : Int) := by
    rw [hu]
    unfold IntKind.wrap u64N
    simp only [IntKind.signed, IntKind.bits, Bool.false_and, Bool.false_eq_true, if_false]
    have e : ((2 : Int) ^ 64) = 18446744073709551616 := by rfl
    rw [e]
    omega
  have HU := Lib.hid hu
  clear hu
  go_enter Tryd.func31, Tryd.ntmps31
  go_wp2_with (
    at_make
    refine law_make rfl _ _ _ rfl Tryd.underlying82 u8_zer rfl HI.out.1 HI.out.2.1 HI.out.2.2 rfl 8 rfl (by omega) ?_
    intro w1 nb hnb hn1 hk1
    have Hnb := Lib.hid hnb
    clear hnb
    have N1 := Lib.hid (And.intro hn1 hk1)
    clear hn1 hk1)
  go_loopg [7] 8 (fun g s7 wr => ∃ j : Nat, s7 = .int .i64 j ∧ j + g = 8 ∧ wr.heap[nb]? = some (.cells (halfK u j) 5 (0, 0)) ∧ Keep w wr (fun _ => False))
  case atStart => exact ⟨0, rfl, by omega, by rw [halfK_zero]; exact N1.out.1, N1.out.2⟩
  case round =>
    obtain ⟨j, rfl, hj, hb, hK⟩ := hrel
    by_cases hlt : j < 8
    · have hl : (j : Int) < 8 := by omega
      have c0 : wr.cell? ⟨nb, j, none⟩ = some (.int .u8 0) := by rw [cell_blk hb, halfK_get u j j hlt, if_neg (by omega)]
      have f0 : wr.frozen? ⟨nb, j, none⟩ = false := free_blk hb _
      have E := Lib.hid (And.intro hb hK)
      clear hb hK
      go_wp2
      go_roundg (8 - (j + 1))
      case measure => omega
      case rel =>
        refine ⟨j + 1, by go_num, by omega, ?_, E.out.2.trans (Keep.setCell _ _ _) (fun b q => .inr (by have := Hnb.out; rw [show b = nb from q]; omega))⟩
        have hv : ((u : Int) / 2 ^ (8 * j) % 256) = ((u / 256 ^ j % 256 : Nat) : Int) := by
          have e : (2 : Int) ^ (8 * j) = ((256 ^ j : Nat) : Int) := by
            rw [show (2 : Int) ^ (8 * j) = ((2 ^ (8 * j) : Nat) : Int) by simp, Nat.pow_mul]
          rw [e]
          omega
        have hs := heap_setCell_eq (off := j) (.int .u8 ((u / 256 ^ j % 256 : Nat) : Int)) E.out.1
        rw [halfK_succ u j hlt] at hs
        rw [hv]
        exact hs
    · have hl : ¬ (j : Int) < 8 := by omega
      have hj8 : j = 8 := by omega
      have hB : BSl wr (.slice (some ⟨nb, 0, none⟩) (le8 u).length 8) (le8 u) := by
        refine .inr ⟨nb, 0, 8, rfl, by rw [le8_len]; omega, by decide, lt_of_blk hb, fun i v hi => ?_⟩
        have hi8 : i < 8 := by
          have := (List.getElem?_eq_some_iff.1 hi).1
          rwa [le8_len] at this
        rw [Nat.zero_add, cell_blk hb, halfK_get u j i hi8, if_pos (by omega)]
        simp only [le8, List.getElem?_map, List.getElem?_range hi8, Option.map_some, Option.some.injEq] at hi
        subst hi
        have m1 : u / 256 ^ i % 256 < 256 := Nat.mod_lt _ (by omega)
        unfold u8V
        rw [UInt8.toNat_ofNat', Nat.mod_eq_of_lt m1]
      rw [le8_len] at hB
      clear hj8 hlt
      have r2 := str_of (P := Tryd.prog) 82 9 Tryd.underlying82 Tryd.underlying5 Tryd.underlying9 hB
      obtain ⟨T, hT⟩ : ∃ T, T = strB (le8 u) := ⟨_, rfl⟩
      have hT8 : T.size = 8 := by rw [hT, strB_size, le8_len]
      rw [← hT] at r2
      have HT := Lib.hid hT
      have g2 : ¬ 9223372036854775807 < 8 + s.size := by omega
      have K := Lib.hid hK
      clear hb hK hB hT
      go_wp2
      go_ret
      refine ⟨?_, K.out⟩
      unfold k8
      rw [← HU.out, ← HT.out]
      rfl

end Go.Proofs.YtjicoebcmfnooaaDoor
