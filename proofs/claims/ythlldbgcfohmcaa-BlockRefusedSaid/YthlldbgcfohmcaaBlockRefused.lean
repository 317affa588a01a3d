/-
  BlockRefused: a write that is refused turned nothing: neither bytes, nor size, nor blocks.
-/
import Derived.Test.YthlldbgcfohmcaaBlockL1
import Derived.Deep.RegionWith
namespace Go.Proofs.Ythlldbgcfohmcaa
open Go Go.RowKit
set_option linter.unusedSectionVars false
set_option linter.unusedSimpArgs false
set_option linter.unusedVariables false

set_option maxRecDepth 100000 in
set_option maxHeartbeats 4000000 in
theorem refused_walk (a0 a1 : Option Addr) (len0 cap0 len1 cap1 : Nat) (x y : Int) (l0 l1 : List Int) (w : World) (hl0 : l0.length = min len0 200) (hl1 : l1.length = min len1 1200) (hc0 : len0 ≤ cap0) (hc1 : len1 ≤ cap1) (hm0 : cap0 ≤ maxLen) (hm1 : cap1 ≤ maxLen)
    (hb0 : BytesIn w (.slice a0 l0.length cap0) l0 (fun b => w.heap.size ≤ b)) (hb1 : BytesIn w (.slice a1 l1.length cap1) l1 (fun b => w.heap.size ≤ b)) :
    Calls Try.prog 5 #[.int .i64 x, .slice a0 len0 cap0, .int .i64 y, .slice a1 len1 cap1] w fun r w' => r = .returned (.bool true) ∧ Below w.heap.size w w' := by
  unfold maxLen at hm0 hm1
  have HB0 := Lib.hid hb0
  have HB1 := Lib.hid hb1
  have l05 : l0.length ≤ 200 := by omega
  have l15 : l1.length ≤ 1200 := by omega
  have Hl0 := Lib.hid hl0
  have Hl1 := Lib.hid hl1
  clear hb0 hb1 hl0 hl1
  go_enter Try.func5, Try.ntmps5
  go_upto_if 34 with (first
    | (go_at_call 16
       refine (within_c _ _ 0 12 (by omega) (by omega) (by omega)).mono ?_
       rintro e w1 ⟨n, hn0, hn1, rfl, rfl⟩)
    | (go_at_call 11
       refine (new_c _ n (by omega) (by omega)).mono ?_
       rintro e w1 ⟨pb, S1, rfl, hp1, ht1⟩
       have C := Lib.hid (Cur.made (Keep.refl w _) hp1 ht1 (PoolV.new_ok (by omega) (by omega)))
       clear hp1 ht1
       unfold ptr))
  go_cut [1] from 32 (fun s wc => s = .slice a0 l0.length cap0 ∧ w1 = wc)
  case first =>
    by_cases h5 : 200 < len0
    all_goals
      go_wp2
      go_meet
      case rel => exact ⟨by rw [Hl0.out]; congr 1; omega, rfl⟩
  case rest =>
    obtain ⟨rfl, rfl⟩ := hcut
    go_upto_if 39 with (fail)
    go_cut [3] from 32 (fun s wc => s = .slice a1 l1.length cap1 ∧ w1 = wc)
    case first =>
      by_cases h5 : 1200 < len1
      all_goals
        go_wp2
        go_meet
        case rel => exact ⟨by rw [Hl1.out]; congr 1; omega, rfl⟩
    case rest =>
      obtain ⟨rfl, rfl⟩ := hcut
      go_upto_region 13 with (first
        | (go_at_call 12
           refine (file_cc C.out.pool C.out.ok (by simp)).mono ?_
           rintro e w3 ⟨rfl, S2, hp3, ht3⟩
           replace C : Hid (Cur w w3 pb S2 (One n FileV.empty) n) := Lib.hid (C.out.turn hp3 ht3 C.out.ok.file)
           clear hp3 ht3)
        | (go_at_call 13
           refine (write_c C.out.pool C.out.ok 1 3 (C.out.bytes HB0.out) (by unfold maxLen; omega)).mono ?_
           rintro e w4 ⟨rfl, S3, hp4, ht4⟩
           replace C := Lib.hid (C.out.turn hp4 ht4 (C.out.ok.write 1 3 HB0.out.1))
           clear hp4 ht4
           generalize ((One n FileV.empty).write 1 3 l0).2 = e4
           generalize ((One n FileV.empty).write 1 3 l0).1 = V at C)
        | (go_at_call 14
           refine (read_c C.out.pool 1 0 3000).mono ?_
           rintro e w5 ⟨v5, rfl, hv5, hk5⟩
           have hx5 := hv5.bytesIn (D := S3) (C.out.ok.read_bytes 1 0 3000) (fun b z => C.out.pool.lt z)
           replace C := Lib.hid (C.out.step hk5)
           have B5 := Lib.hid hx5
           clear hv5 hk5 hx5)
        | (go_at_call 17
           refine (size_c C.out.pool 1).mono ?_
           rintro e w6 ⟨rfl, rfl⟩)
        | (go_at_call 18
           refine (used_c C.out.pool 1).mono ?_
           rintro e w6 ⟨rfl, rfl⟩)
        | (go_at_call 19
           refine (left_c C.out.pool).mono ?_
           rintro e w6 ⟨rfl, rfl⟩))
      by_cases he : (V.write 1 y l1).2 = 0
      · have hd : ((V.write 1 y l1).2 == 0) = true := by rw [he]; rfl
        clear he
        go_wp2_with (first
          | (go_at_call 13
             refine (write_c C.out.pool C.out.ok 1 y (C.out.bytes HB1.out) (by unfold maxLen; omega)).mono ?_
             rintro e w7 ⟨rfl, S4, hp7, ht7⟩
             have C7 := Lib.hid (C.out.turn hp7 ht7 (C.out.ok.write 1 y HB1.out.1))
             clear hp7 ht7)
          | (go_at_call 15
             refine (known_c _).mono ?_
             rintro e w11 ⟨rfl, hk11⟩
             have C11 := Lib.hid (C7.out.step hk11)
             clear hk11))
        go_ret
        exact ⟨rfl, C11.out.below⟩
      · have hd : ((V.write 1 y l1).2 == 0) = false := by simpa using he
        have hsame := Lib.hid (write_refused V 1 y l1 he)
        clear he
        go_wp2_with (first
          | (go_at_call 13
             refine (write_c C.out.pool C.out.ok 1 y (C.out.bytes HB1.out) (by unfold maxLen; omega)).mono ?_
             rintro e w7 ⟨rfl, S4, hp7, ht7⟩
             have B7 := Lib.hid (B5.out.turn ht7)
             rw [hsame.out] at hp7
             have C7 := Lib.hid (C.out.turn hp7 ht7 C.out.ok)
             clear hp7 ht7)
          | (go_at_call 14
             refine (read_c C7.out.pool 1 0 3000).mono ?_
             rintro e w8 ⟨v8, rfl, hv8, hk8⟩
             have hx8 := hv8.bytesIn (D := S4) (C7.out.ok.read_bytes 1 0 3000) (fun b z => C7.out.pool.lt z)
             have hw8 := B7.out.keep hk8 (fun b z => z.elim)
             have C8 := Lib.hid (C7.out.step hk8)
             have r1 := str_run (P := Try.prog) 22 9 Try.underlying22 Try.underlying5 Try.underlying9 hw8
             have r2 := str_run (P := Try.prog) 22 9 Try.underlying22 Try.underlying5 Try.underlying9 hx8
             clear hv8 hk8 hx8 hw8)
          | (go_at_call 17
             refine (size_c C8.out.pool 1).mono ?_
             rintro e w6 ⟨rfl, rfl⟩)
          | (go_at_call 18
             refine (used_c C8.out.pool 1).mono ?_
             rintro e w6 ⟨rfl, rfl⟩)
          | (go_at_call 19
             refine (left_c C8.out.pool).mono ?_
             rintro e w6 ⟨rfl, rfl⟩)
          | (go_at_call 15
             refine (known_c _).mono ?_
             rintro e w11 ⟨rfl, hk11⟩
             have C11 := Lib.hid (C8.out.step hk11)
             clear hk11))
        go_ret
        exact ⟨rfl, C11.out.below⟩

theorem refused_row (x : Int) (a0 : Option Addr) (len0 cap0 : Nat) (z0 : List Int) (y : Int) (a1 : Option Addr) (len1 cap1 : Nat) (z1 : List Int) (w : World) (w0 : RowIs w a0 len0 cap0 z0) (w1 : RowIs w a1 len1 cap1 z1) :
    Calls Try.prog 5 #[.int .i64 x, .slice a0 len0 cap0, .int .i64 y, .slice a1 len1 cap1] w fun r w' => r = .returned (.bool true) ∧ Below w.heap.size w w' := by
  have h0 := w0.bytes (min len0 200) (Nat.min_le_left _ _)
  have c0 := w0.cap
  have h1 := w1.bytes (min len1 1200) (Nat.min_le_left _ _)
  have c1 := w1.cap
  exact refused_walk a0 a1 len0 cap0 len1 cap1 x y (z0.take (min len0 200)) (z1.take (min len1 1200)) w h0.1 h1.1 c0.1 c1.1 c0.2.1 c1.2.1 (by rw [h0.1]; exact h0.2) (by rw [h1.1]; exact h1.2)

end Go.Proofs.Ythlldbgcfohmcaa
