/-
  BlockBack: what was written into a pool's file is read where it was written; around it nothing turned.
-/
import Derived.Test.YthlldbgcfohmcaaBlockL1
import Derived.Deep.RegionWith
namespace Go.Proofs.Ythlldbgcfohmcaa
open Go Go.RowKit
set_option linter.unusedSectionVars false
set_option linter.unusedSimpArgs false
set_option linter.unusedVariables false

set_option maxRecDepth 100000 in
set_option maxHeartbeats 4000000 in
theorem back_walk (a0 a1 : Option Addr) (len0 cap0 len1 cap1 : Nat) (x y : Int) (l0 l1 : List Int) (w : World) (hl0 : l0.length = min len0 300) (hl1 : l1.length = min len1 300) (hc0 : len0 ≤ cap0) (hc1 : len1 ≤ cap1) (hm0 : cap0 ≤ maxLen) (hm1 : cap1 ≤ maxLen)
    (hb0 : BytesIn w (.slice a0 l0.length cap0) l0 (fun b => w.heap.size ≤ b)) (hb1 : BytesIn w (.slice a1 l1.length cap1) l1 (fun b => w.heap.size ≤ b)) :
    Calls Try.prog 4 #[.slice a0 len0 cap0, .slice a1 len1 cap1, .int .i64 x, .int .i64 y] w fun r w' => r = .returned (.bool true) ∧ Below w.heap.size w w' := by
  unfold maxLen at hm0 hm1
  have HB0 := Lib.hid hb0
  have HB1 := Lib.hid hb1
  have l05 : l0.length ≤ 300 := by omega
  have l15 : l1.length ≤ 300 := by omega
  have Hl0 := Lib.hid hl0
  have Hl1 := Lib.hid hl1
  obtain ⟨i0, z0, ei⟩ := u8_row
  have HI := Lib.hid ei
  clear hb0 hb1 hl0 hl1 ei
  go_enter Try.func4, Try.ntmps4
  go_upto_if 28 with (
    go_at_call 11
    refine (new_c _ 256 (by omega) (by omega)).mono ?_
    rintro e w1 ⟨pb, S1, rfl, hp1, ht1⟩
    have C := Lib.hid (Cur.made (Keep.refl w _) hp1 ht1 (PoolV.new_ok (by omega) (by omega)))
    clear hp1 ht1
    unfold ptr)
  go_cut [0] from 26 (fun s wc => s = .slice a0 l0.length cap0 ∧ w1 = wc)
  case first =>
    by_cases h5 : 300 < len0
    all_goals
      go_wp2
      go_meet
      case rel => exact ⟨by rw [Hl0.out]; congr 1; omega, rfl⟩
  case rest =>
    obtain ⟨rfl, rfl⟩ := hcut
    go_upto_if 33 with (fail)
    go_cut [1] from 26 (fun s wc => s = .slice a1 l1.length cap1 ∧ w1 = wc)
    case first =>
      by_cases h5 : 300 < len1
      all_goals
        go_wp2
        go_meet
        case rel => exact ⟨by rw [Hl1.out]; congr 1; omega, rfl⟩
    case rest =>
      obtain ⟨rfl, rfl⟩ := hcut
      go_upto_if 55 with (first
        | (go_at_call_of 16 (Value.int .i64 x)
           refine (within_c _ _ 0 300 (by omega) (by omega) (by omega)).mono ?_
           rintro e w2 ⟨p, hp0, hp1, rfl, rfl⟩)
        | (go_at_call_of 16 (Value.int .i64 y)
           refine (within_c _ _ 0 300 (by omega) (by omega) (by omega)).mono ?_
           rintro e w2 ⟨q, hq0, hq1, rfl, rfl⟩)
        | (go_at_call 12
           refine (file_cc C.out.pool C.out.ok (by simp)).mono ?_
           rintro e w3 ⟨rfl, S2, hp3, ht3⟩
           replace C : Hid (Cur w w3 pb S2 (One 256 FileV.empty) 256) := Lib.hid (C.out.turn hp3 ht3 C.out.ok.file)
           have W1 := Lib.hid (one_wrote_empty p l0 hp0 (by omega) HB0.out.1)
           have k1 := Lib.hid (FileV.wrote_ok FileV.empty_ok hp0 (by omega) HB0.out.1)
           clear hp3 ht3)
        | (go_at_call_of 13 (Value.int .i64 p)
           refine (write_c C.out.pool C.out.ok 1 p (C.out.bytes HB0.out) (by unfold maxLen; omega)).mono ?_
           rintro e w4 ⟨rfl, S3, hp4, ht4⟩
           replace C := Lib.hid (C.out.turn hp4 ht4 (C.out.ok.write 1 p HB0.out.1))
           clear hp4 ht4
           rw [W1.out] at C
           rw [W1.out]
           have W2 := Lib.hid (one_wrote_next _ q l1 k1.out hq0 (by omega) HB1.out.1)
           have k2 := Lib.hid (FileV.wrote_ok k1.out hq0 (by omega) HB1.out.1)
           clear W1)
        | (go_at_call_of 13 (Value.int .i64 q)
           refine (write_c C.out.pool C.out.ok 1 q (C.out.bytes HB1.out) (by unfold maxLen; omega)).mono ?_
           rintro e w5 ⟨rfl, S4, hp5, ht5⟩
           replace C := Lib.hid (C.out.turn hp5 ht5 (C.out.ok.write 1 q HB1.out.1))
           clear hp5 ht5
           rw [W2.out] at C
           rw [W2.out]
           clear W2))
      have hs1 : (l0.length = 0 → (FileV.empty.wrote p l0).size = 0) ∧ (0 < l0.length → (FileV.empty.wrote p l0).size = p + l0.length) := by
        have h := FileV.wrote_size FileV.empty p l0
        refine ⟨fun e => h.1 (List.length_eq_zero_iff.1 e), fun e => ?_⟩
        rw [h.2 (List.length_pos_iff.1 e)]
        show max (0 : Int) _ = _
        omega
      have hs2 : (l1.length = 0 → ((FileV.empty.wrote p l0).wrote q l1).size = (FileV.empty.wrote p l0).size) ∧ (0 < l1.length → ((FileV.empty.wrote p l0).wrote q l1).size = max (FileV.empty.wrote p l0).size (q + l1.length)) := by
        have h := FileV.wrote_size (FileV.empty.wrote p l0) q l1
        exact ⟨fun e => h.1 (List.length_eq_zero_iff.1 e), fun e => h.2 (List.length_pos_iff.1 e)⟩
      have HS1 := Lib.hid hs1
      have HS2 := Lib.hid hs2
      have Hby := Lib.hid (show ((FileV.empty.wrote p l0).wrote q l1).byte = putF (putF (fun _ => 0) p l0) q l1 by rw [FileV.wrote_byte, FileV.wrote_byte]; rfl)
      obtain ⟨s1, es1⟩ : ∃ s1, s1 = (FileV.empty.wrote p l0).size := ⟨_, rfl⟩
      obtain ⟨s2, es2⟩ : ∃ s2 : Nat, (s2 : Int) = ((FileV.empty.wrote p l0).wrote q l1).size := ⟨_, Int.toNat_of_nonneg k2.out.1⟩
      have hq1 : 0 ≤ s1 ∧ s1 ≤ 1024 := by rw [es1]; exact ⟨k1.out.1, k1.out.2.1⟩
      have hq2 : s2 ≤ 1024 := by have := k2.out.2.1; omega
      obtain ⟨hq1a, hq1b⟩ := hq1
      have E1 := Lib.hid es1
      have E2 := Lib.hid es2
      clear hs1 hs2 es1 es2
      go_upto_if 58 with (fail)
      go_cut [12] from 56 (fun s wc => s = .int .i64 s1 ∧ w5 = wc)
      case first =>
        by_cases h0 : 0 < l0.length
        · go_wp2
          go_meet
          case rel => exact ⟨by rw [E1.out, HS1.out.2 h0], rfl⟩
        · have h0' : l0.length = 0 := by omega
          have h0i : ¬ (0 : Int) < (l0.length : Int) := by omega
          have h0h := Lib.hid h0'
          clear h0' h0
          go_wp2
          go_meet
          case rel => exact ⟨by rw [E1.out, HS1.out.1 h0h.out], rfl⟩
      case rest =>
        obtain ⟨rfl, rfl⟩ := hcut
        go_upto_region 16 with (fail)
        go_cut [73] from 63 (fun s wc => s = .bool (decide (0 < l1.length ∧ s1 < q + (l1.length : Int))) ∧ w5 = wc)
        case first =>
          by_cases h1 : 0 < l1.length
          · by_cases h2 : s1 < q + (l1.length : Int)
            all_goals
              go_wp2
              go_meet
              case rel => exact ⟨by simp [h1, h2], rfl⟩
          · have h1i : ¬ (0 : Int) < (l1.length : Int) := by omega
            go_wp2
            go_meet
            case rel => exact ⟨by simp [h1], rfl⟩
        case rest =>
          obtain ⟨rfl, rfl⟩ := hcut
          go_upto_if 73 with (fail)
          go_cut [12] from 73 (fun s wc => s = .int .i64 (s2 : Int) ∧ w5 = wc)
          case first =>
            by_cases h1 : 0 < l1.length ∧ s1 < q + (l1.length : Int)
            · obtain ⟨h1a, h1b⟩ := h1
              have h1d : decide (0 < l1.length ∧ s1 < q + (l1.length : Int)) = true := by simp [h1a, h1b]
              rw [h1d]
              clear h1d
              go_wp2
              go_meet
              case rel => exact ⟨by rw [E2.out, HS2.out.2 h1a]; congr 1; have := E1.out; omega, rfl⟩
            · have h1d : decide (0 < l1.length ∧ s1 < q + (l1.length : Int)) = false := by simpa using h1
              rw [h1d]
              clear h1d
              have h1' : (s2 : Int) = s1 := by
                have e1 := E1.out
                have e2 := E2.out
                by_cases h3 : 0 < l1.length
                · have := HS2.out.2 h3
                  omega
                · have := HS2.out.1 (by omega)
                  omega
              have H1 := Lib.hid h1'
              clear h1 h1'
              go_wp2
              go_meet
              case rel => exact ⟨by rw [H1.out], rfl⟩
          case rest =>
            obtain ⟨rfl, rfl⟩ := hcut
            go_upto_if 82 with (
              at_make
              refine law_make rfl _ _ _ rfl Try.underlying22 u8_zero rfl HI.out.1 HI.out.2.2.1 HI.out.2.2.2.1 rfl s2 rfl (by omega) ?_
              intro w6 nb hnb hn6 hk6
              have NB := Lib.hid (show w.heap.size ≤ nb ∧ ¬ S4 nb from ⟨by have := C.out.keep.size; omega, fun z => by have := C.out.pool.lt z; omega⟩)
              rw [← rowF_zero] at hn6
              have N := Lib.hid (And.intro (C.out.step hk6) hn6)
              clear hnb hn6 hk6)
            go_cut [] from 82 (fun wc => Cur w wc pb S4 (One (256 - ((FileV.empty.wrote p l0).wrote q l1).keys.length) ((FileV.empty.wrote p l0).wrote q l1)) 256 ∧ wc.heap[nb]? = some (.cells (rowF s2 (putF (fun _ => 0) p l0)) 5 (0, 0)))
            case first =>
              by_cases h0 : 0 < l0.length
              · have hroom : p + (l0.length : Int) ≤ s2 := by
                  have e1 := E1.out
                  have e2 := E2.out
                  have := HS1.out.2 h0
                  by_cases h3 : 0 < l1.length
                  · have := HS2.out.2 h3
                    omega
                  · have := HS2.out.1 (by omega)
                    omega
                go_wp2_with (
                  refine law_copy rfl (.tmp 85) (.tmp 86) _ _ 5 rfl Try.underlying22 HI.out.1 HI.out.2.2.1 rfl rfl (N.out.1.bytes HB0.out) N.out.2 (by omega) (by omega) ?_
                  intro w7 hb7 hk7
                  rw [Int.toNat_of_nonneg hp0] at hb7
                  have N7 := Lib.hid (And.intro (N.out.1.beside hk7 (fun b e => by have e' : b = nb := e; rw [e']; exact NB.out)) hb7)
                  clear hb7 hk7)
                go_meet
                case rel => exact N7.out
              · have h0i : ¬ (0 : Int) < (l0.length : Int) := by omega
                go_wp2
                go_meet
                case rel => exact ⟨N.out.1, by rw [putF_nil _ _ (by omega)]; exact N.out.2⟩
            case rest =>
              have N1 := Lib.hid hcut
              clear hcut N
              obtain ⟨w8, rfl⟩ : ∃ w8 : World, w8 = wc := ⟨_, rfl⟩
              go_upto_if 90 with (fail)
              go_cut [] from 90 (fun wc => Cur w wc pb S4 (One (256 - ((FileV.empty.wrote p l0).wrote q l1).keys.length) ((FileV.empty.wrote p l0).wrote q l1)) 256 ∧ wc.heap[nb]? = some (.cells (rowF s2 (putF (putF (fun _ => 0) p l0) q l1)) 5 (0, 0)))
              case first =>
                by_cases h0 : 0 < l1.length
                · have hroom : q + (l1.length : Int) ≤ s2 := by
                    have e2 := E2.out
                    have := HS2.out.2 h0
                    omega
                  go_wp2_with (
                    refine law_copy rfl (.tmp 93) (.tmp 94) _ _ 5 rfl Try.underlying22 HI.out.1 HI.out.2.2.1 rfl rfl (N1.out.1.bytes HB1.out) N1.out.2 (by omega) (by omega) ?_
                    intro w7 hb7 hk7
                    rw [Int.toNat_of_nonneg hq0] at hb7
                    have N7 := Lib.hid (And.intro (N1.out.1.beside hk7 (fun b e => by have e' : b = nb := e; rw [e']; exact NB.out)) hb7)
                    clear hb7 hk7)
                  go_meet
                  case rel => exact N7.out
                · have h0i : ¬ (0 : Int) < (l1.length : Int) := by omega
                  go_wp2
                  go_meet
                  case rel => exact ⟨N1.out.1, by rw [putF_nil _ _ (by omega)]; exact N1.out.2⟩
              case rest =>
                have N2 := Lib.hid hcut
                clear hcut N1
                have hrd := Lib.hid (one_read' (256 - ((FileV.empty.wrote p l0).wrote q l1).keys.length) _ 5000 k2.out (by omega))
                go_wp2_with (first
                  | (go_at_call 14
                     refine (read_c N2.out.1.pool 1 0 5000).mono ?_
                     rintro e w9 ⟨v9, rfl, hv9, hk9⟩
                     rw [hrd.out] at hv9
                     rw [hrd.out]
                     replace hv9 : BytesNew w9 v9 (listF ((FileV.empty.wrote p l0).wrote q l1).size.toNat ((FileV.empty.wrote p l0).wrote q l1).byte) wc.heap.size := hv9
                     have e3 : ((FileV.empty.wrote p l0).wrote q l1).size.toNat = s2 := by have := E2.out; omega
                     rw [e3] at hv9
                     have hgb : ∀ i : Nat, i < s2 → 0 ≤ (putF (putF (fun _ => 0) p l0) q l1) i ∧ (putF (putF (fun _ => 0) p l0) q l1) i < 256 := fun i _ => by rw [← Hby.out]; exact k2.out.2.2.2.2.2 i
                     have hw9 := rowF_bytes (cap := s2) (D := fun _ => False) (hk9.get N2.out.2 (fun z => z)) hgb (fun z => z)
                     have hx9 := hv9.bytesIn (D := fun _ => False) (fun c hc => by obtain ⟨i, _, rfl⟩ := List.mem_map.1 hc; exact k2.out.2.2.2.2.2 i) (fun b z => z.elim)
                     rw [Hby.out] at hx9
                     have C9 := Lib.hid (N2.out.1.step hk9)
                     have r1 := str_run (P := Try.prog) 22 9 Try.underlying22 Try.underlying5 Try.underlying9 hw9
                     have r2 := str_run (P := Try.prog) 22 9 Try.underlying22 Try.underlying5 Try.underlying9 hx9
                     clear hk9 hv9 e3 hgb hw9 hx9)
                  | (go_at_call 17
                     refine (size_c C9.out.pool 1).mono ?_
                     rintro e w10 ⟨rfl, rfl⟩
                     have e4 : (One (256 - ((FileV.empty.wrote p l0).wrote q l1).keys.length) ((FileV.empty.wrote p l0).wrote q l1)).size 1 = s2 := E2.out.symm
                     rw [e4]
                     clear e4)
                  | (go_at_call 15
                     refine (known_c _).mono ?_
                     rintro e w11 ⟨rfl, hk11⟩
                     have C11 := Lib.hid (C9.out.step hk11)
                     clear hk11))
                go_ret
                exact ⟨rfl, C11.out.below⟩

theorem back_row (a0 : Option Addr) (len0 cap0 : Nat) (z0 : List Int) (a1 : Option Addr) (len1 cap1 : Nat) (z1 : List Int) (x y : Int) (w : World) (w0 : RowIs w a0 len0 cap0 z0) (w1 : RowIs w a1 len1 cap1 z1) :
    Calls Try.prog 4 #[.slice a0 len0 cap0, .slice a1 len1 cap1, .int .i64 x, .int .i64 y] w fun r w' => r = .returned (.bool true) ∧ Below w.heap.size w w' := by
  have h0 := w0.bytes (min len0 300) (Nat.min_le_left _ _)
  have c0 := w0.cap
  have h1 := w1.bytes (min len1 300) (Nat.min_le_left _ _)
  have c1 := w1.cap
  exact back_walk a0 a1 len0 cap0 len1 cap1 x y (z0.take (min len0 300)) (z1.take (min len1 300)) w h0.1 h1.1 c0.1 c1.1 c0.2.1 c1.2.1 (by rw [h0.1]; exact h0.2) (by rw [h1.1]; exact h1.2)

end Go.Proofs.Ythlldbgcfohmcaa
