/-
  ChainNumbers: chapter 5's runs.
-/
import Derived.Test.YtkdpkmlmkholmaaChainB
import Derived.Test.YtkdpkmlmkholmaaChain8
import Derived.Deep.LoopGhost
import Derived.Deep.CutRange
import Derived.Deep.CutBlock
namespace Go.Proofs.Ytkdpkmlmkholmaa
open Go Go.RowKit
set_option linter.unusedSectionVars false
set_option linter.unusedSimpArgs false
set_option linter.unusedVariables false

theorem conv_rune (k : Nat) (hk : k < 64) (w : World) : (convert 21 9 (.int .i32 (48 + (k : Int)))).run Try.prog w = .ok (.string (eK k)) w := by
  have h1 : Try.prog.underlying 21 = some (.int .i32) := Try.underlying21
  have h2 : Try.prog.underlying 9 = some .string := Try.underlying9
  have hu : ∀ w, (underlying 21).run Try.prog w = .ok (.int .i32) w := fun w => by simp [underlying, program, Sem.run, h1]
  have hv : ∀ w, (underlying 9).run Try.prog w = .ok .string w := fun w => by simp [underlying, program, Sem.run, h2]
  unfold convert
  simp only [Sem.run_bind, hu, hv, Result.andThen_ok, Conv.intToString, Sem.run_pure, eK_enc k hk]

set_option maxRecDepth 100000 in
set_option maxHeartbeats 4000000 in
theorem numbers_walk (w : World) : Calls Try.prog 4 #[] w fun r w' => r = .returned (.bool true) ∧ Below w.heap.size w w' := by
  have hb0 := new_bad w 0 (by omega)
  have hb1 := new_bad w 65 (by omega)
  have hn := new_c w 3 (by omega) (by omega)
  go_enter Try.func4, Try.ntmps4
  go_wp2_with fail
  refine hb0.mono ?_
  rintro e w1 ⟨rfl, rfl⟩
  clear hb0
  go_wp2_with fail
  refine hb1.mono ?_
  rintro e w1 ⟨rfl, rfl⟩
  clear hb1
  go_wp2_with fail
  refine hn.mono ?_
  rintro e w2 ⟨tb, S1, rfl, hT1, hK1⟩
  have B1 := Lib.hid (And.intro hT1 hK1)
  have hd := drop_c hT1 ⟨#[120]⟩ (by decide)
  rw [show dropT [] ⟨#[120]⟩ = ([], 0, 14) from rfl] at hd
  clear hT1 hK1 hn
  go_wp2_with fail
  refine hd.mono ?_
  rintro e w3 ⟨rfl, S2, hT2, hK2, _⟩
  have B2 := Lib.hid (And.intro hT2 (B1.out.2.trans hK2))
  clear hd hT2 hK2
  go_upto_block 0 with (fail)
  go_cut [9] from 40 to 51 (fun s9 wx => ∃ S, TabAt wx tb S 3 (numT 64) ∧ Turn w (fun _ => False) wx S)
  case first =>
    go_wp2_with fail
    go_loopg [9] 64 (fun g s9 wr => ∃ (k : Nat) (S : Nat → Prop), s9 = .int .i64 k ∧ k + g = 64 ∧ TabAt wr tb S 3 (numT k) ∧ Turn w (fun _ => False) wr S)
    case atStart => exact ⟨0, S2, rfl, rfl, B2.out.1, B2.out.2⟩
    case round =>
      obtain ⟨k, S, rfl, hk, hT, hK⟩ := hrel
      have B := Lib.hid (And.intro hT hK)
      by_cases hlt : k < 64
      · have hlt' : (k : Int) < 64 := by omega
        have hp := put_c hT (eK k) k (eK_size k)
        rw [numT_put k hlt] at hp
        have hcv := conv_rune k hlt
        clear hT hK
        go_wp2_with (
          go_at_call 12
          refine hp.mono ?_
          rintro e w4 ⟨rfl, S', hT', hK', _⟩
          have N := Lib.hid (And.intro hT' (B.out.2.trans hK'))
          clear hp hT' hK' hcv)
        go_roundg (64 - (k + 1))
        case measure => omega
        case rel => exact ⟨k + 1, S', rfl, by omega, N.out.1, N.out.2⟩
      · obtain rfl : k = 64 := by omega
        clear hT hK
        go_wp2
        go_meet
        case rel => exact ⟨S, B.out.1, B.out.2⟩
  case rest =>
    obtain ⟨S3, hT3, hK3⟩ := hcut
    have B3 := Lib.hid (And.intro hT3 hK3)
    have hp := put_c hT3 ⟨#[102, 117, 108, 108]⟩ 1 (by decide)
    rw [numT_full] at hp
    clear hT3 hK3
    go_upto_block 2 with (first
      | (go_at_call 12
         refine hp.mono ?_
         rintro e w4 ⟨rfl, S4, hT4, hK4, _⟩
         have B4 := Lib.hid (And.intro hT4 (B3.out.2.trans hK4))
         have hd := drop_c hT4 (eK 5) (eK_size 5)
         rw [numT_drop, show eK 5 = ⟨#[53]⟩ from rfl] at hd
         clear hp hT4 hK4)
      | (go_at_call 10
         refine hd.mono ?_
         rintro e w5 ⟨rfl, S5, hT5, hK5, _⟩
         have B5 := Lib.hid (And.intro hT5 (B4.out.2.trans hK5))
         have hl := look_c hT5 (eK 5) (eK_size 5)
         rw [show eK 5 = ⟨#[53]⟩ from rfl] at hl
         clear hd hT5 hK5)
      | (go_at_call 16
         refine hl.mono ?_
         rintro e w6 ⟨lb, o6, P6, rfl, h1, h2, h3, h4, h5, h6⟩
         have B6 := Lib.hid (And.intro h1 (And.intro h2 (And.intro h3 (And.intro h4 (And.intro h5 h6)))))
         clear hl h1 h2 h3 h4 h5 h6))
    go_cut [14] from 63 to 71 (fun s14 wx => ∃ (o : Option Nat) (vv st : Int) (ov : Bool) (S : Nat → Prop), LookAt wx lb ⟨#[53]⟩ o ⟨ov, false, vv, st⟩ ∧ TabAt wx tb S 3 T63 ∧ Turn w (fun _ => False) wx S)
    case first =>
      go_wp2_with fail
      go_loopg [14] 64 (fun g s14 wr => ∃ (j : Nat) (o : Option Nat) (vv : Int) (P : List (Nat × Pair)), s14 = .int .i64 j ∧ g = 64 - j ∧ LookAt wr lb ⟨#[53]⟩ o ⟨false, false, vv, j⟩ ∧ Seg wr o P ∧ P.length + j ≤ 63 ∧ (∀ x ∈ P, x.2.1 ≠ ⟨#[53]⟩ ∧ lb ≠ x.1) ∧ TabAt wr tb S5 3 T63 ∧ Keep w wr (fun _ => False))
      case atStart =>
        obtain ⟨h1, h2, h3, h4, h5, h6⟩ := B6.out
        refine ⟨0, o6, 0, P6, rfl, rfl, h3, h4, ?_, fun x hx => ⟨fun e => ?_, fun e => ?_⟩, B5.out.1.keep h2 (fun _ _ q => q), B5.out.2.keep.trans h2 (fun _ q => q.elim)⟩
        · have := congrArg List.length h5
          rw [List.length_map] at this
          have h7 := List.length_filter_le (inChain 3 (bucket 3 ⟨#[53]⟩)) T63
          unfold chainOf at this
          rw [List.length_reverse] at this
          rw [T63_len] at h7
          omega
        · have hm : x.2 ∈ chainOf T63 3 (bucket 3 ⟨#[53]⟩) := by rw [← h5]; exact List.mem_map_of_mem hx
          have hm2 := (mem_chainOf.1 hm).1
          have h8 := pget_of_mem (k := ⟨#[53]⟩) (v := x.2.2) B5.out.1.nodup (by rw [← e]; exact hm2)
          rw [show (⟨#[53]⟩ : ByteArray) = eK 5 from rfl, T63_none] at h8
          simp at h8
        · have := B5.out.1.lt _ (h6 x hx)
          omega
      case round =>
        obtain ⟨j, o, vv, P, rfl, rfl, hL, hP, hPl, hPk, hT, hK⟩ := hrel
        have hst := step_c hL rfl (by simp only; omega) (by simp only; omega) hP
        cases P with
        | nil =>
          have D := Lib.hid (And.intro hT hK)
          have hlb : ¬ S5 lb := fun q => by have := B5.out.1.lt _ q; have := B6.out.1; omega
          rw [show (stepL ⟨#[53]⟩ ⟨false, false, vv, j⟩ ([] : List (Nat × Pair))).1.over = true from rfl] at hst
          clear hL hP hPl hPk hT hK
          go_wp2_with (
            go_at_call 18
            refine hst.mono ?_
            rintro e w7 ⟨rfl, o7, q1, _, q3⟩
            have N := Lib.hid (And.intro q1 q3)
            clear hst q1 q3)
          go_meet
          case rel =>
            obtain ⟨q1, q3⟩ := N.out
            have hlw : w.heap.size ≤ lb := by have := B6.out.1; have := B5.out.2.keep.size; omega
            exact ⟨_, _, _, _, S5, q1, D.out.1.keep q3 (fun b q z => hlb (by rw [← show b = lb from z]; exact q)), ⟨D.out.2.trans q3 (fun b q => .inr (by rw [show b = lb from q]; exact hlw)), B5.out.2.new⟩⟩
        | cons x r =>
          have D := Lib.hid (And.intro hT (And.intro hK (And.intro hPl hPk)))
          have hlb : ¬ S5 lb := fun q => by have := B5.out.1.lt _ q; have := B6.out.1; omega
          have hne := (hPk x (by simp)).1
          rw [show stepL ⟨#[53]⟩ ⟨false, false, vv, j⟩ (x :: r) = (⟨false, false, vv, (j : Int) + 1⟩, r) from by simp [stepL, hne]] at hst
          have hj100 : (j : Int) < 100 := by omega
          have hj64 : j < 64 := by omega
          clear hL hP hPl hPk hT hK hne
          go_wp2_with (
            go_at_call 18
            refine hst.mono ?_
            rintro e w7 ⟨rfl, o7, q1, q2, q3⟩
            have N := Lib.hid (And.intro q1 (And.intro q2 q3))
            clear hst q1 q2 q3)
          go_roundg (64 - (j + 1))
          case measure => omega
          case rel =>
            obtain ⟨q1, q2, q3⟩ := N.out
            have hlw : w.heap.size ≤ lb := by have := B6.out.1; have := B5.out.2.keep.size; omega
            have hpl := D.out.2.2.1
            simp only [List.length_cons] at hpl
            exact ⟨j + 1, o7, vv, r, rfl, rfl, q1, q2, by omega, fun y hy => D.out.2.2.2 y (by simp [hy]), D.out.1.keep q3 (fun b q z => hlb (by rw [← show b = lb from z]; exact q)), D.out.2.1.trans q3 (fun b q => .inr (by rw [show b = lb from q]; exact hlw))⟩
    case rest =>
      obtain ⟨o, vv, st, ov, S7, hL, hT, hK⟩ := hcut
      have D := Lib.hid (And.intro hT hK)
      have hfd := found_c hL
      clear hL hT hK
      simp only at hfd
      go_wp2_with (first
        | (go_at_call 19
           refine hfd.mono ?_
           rintro e w7 ⟨rfl, q7, hw7⟩
           have D7 := Lib.hid (show TabAt w7 tb S7 3 T63 ∧ Keep w w7 (fun _ => False) from by rw [hw7]; exact ⟨D.out.1.keep (drewN_keep _ (fun _ => False) _) (fun _ _ z => z), D.out.2.keep.trans (drewN_keep _ (fun _ => False) _) (fun _ q => q.elim)⟩)
           have hlen := len_c D7.out.1
           have hk1 := keys_c D7.out.1
           rw [T63_len] at hlen
           clear hfd hw7)
        | (go_at_call 22
           refine hlen.mono ?_
           rintro e w8 ⟨rfl, hw8⟩
           obtain rfl : w7 = w8 := hw8.symm
           clear hlen)
        | (go_at_call 23
           first
           | (refine hk1.mono ?_
              rintro e w9 ⟨v9, rfl, hM9⟩
              rw [T63_sorted] at hM9
              obtain ⟨a9, cap9, rfl⟩ := hM9.valn (n := 63) (by rw [List.length_map, List.length_map]; exact T63_len)
              have hk2 := keys_c (D7.out.1.keep hM9.keep (fun _ _ z => z))
              have M9 := Lib.hid hM9
              clear hk1 hM9)
           | (refine hk2.mono ?_
              rintro e w10 ⟨v10, rfl, hM10⟩
              rw [T63_sorted] at hM10
              have hl10 : ((T63.map Prod.fst).map Value.string).length = 63 := by rw [List.length_map, List.length_map]; exact T63_len
              obtain ⟨a10, cap10, rfl⟩ := hM10.valn (n := 63) hl10
              have hL10 := hM10.list
              obtain ⟨g, off, rfl, _, hc10⟩ := hL10.some (by rw [hl10]; omega)
              have c10 : w10.cell? ⟨g, off, none⟩ = some (.string ⟨#[48]⟩) := hc10 0 _ (mapGet T63_head)
              have M10 := Lib.hid hM10.keep
              clear hk2 hM10 hL10 hc10 hl10))
        | (go_at_call 21
           refine (known_c _).mono ?_
           rintro e w11 ⟨rfl, hk11⟩
           have M11 := Lib.hid hk11
           clear hk11))
      go_ret
      refine ⟨rfl, ?_⟩
      exact (((D7.out.2.trans M9.out.keep (fun _ q => q.elim)).trans M10.out (fun _ q => q.elim)).trans M11.out (fun _ q => q.elim)).below (Nat.le_refl _) (fun _ q => q.elim)

end Go.Proofs.Ytkdpkmlmkholmaa
