/-
  NameReads: the walk.
-/
import Derived.Test.YtlbekofkhjkniaaDoorNKnown
import Derived.Test.YtlbekofkhjkniaaDoorRName4
import Derived.Deep.Cut
import Derived.Below
namespace Go.Proofs.YtlbekofkhjkniaaDoor
open Go Go.RowKit Go.Shelf
set_option linter.unusedSectionVars false
set_option linter.unusedSimpArgs false
set_option linter.unusedVariables false
attribute [local go_sem] Oper.semAt_some

set_option maxRecDepth 100000 in
set_option maxHeartbeats 8000000 in
theorem reads_walk (x : ByteArray) (w : World) :
    Calls Tryd.prog 7 #[.string x] w fun r w' => r = .returned (.bool true) ∧ Keep w w' (fun _ => False) := by
  obtain ⟨la, hla, lla⟩ := cutB_list 6000 x
  have HA := Lib.hid hla
  clear hla
  go_enter Tryd.func7, Tryd.ntmps7
  go_upto_if 13 with (fail)
  go_cut [0] from 11 (fun s wc => s = .string (txB la) ∧ w = wc)
  case first =>
    by_cases h : 6000 < x.size
    · have g1 : (6000 : Int) < (x.size : Int) := by omega
      have g2 : (6000 : Int) ≤ (x.size : Int) := by omega
      have g3 : 6000 ≤ x.size := by omega
      go_wp2
      go_meet
      case rel => exact ⟨by rw [← HA.out, cutB, if_pos h], rfl⟩
    · have g1 : ¬ (6000 : Int) < (x.size : Int) := by omega
      go_wp2
      go_meet
      case rel => exact ⟨by rw [← HA.out, cutB, if_neg h], rfl⟩
  case rest =>
    obtain ⟨rfl, rfl⟩ := hcut
    clear HA
    have hr1 := fun U => read_c la U
    have hr2 := fun U => rread_c la U (by omega)
    have hc1 := fun U => clean_c la U
    have hc2 := fun U => rclean_c la U (by omega)
    have ht1 := fun U => right_c la U
    have ht2 := fun U => rright_c la U (by omega)
    have hd1 := fun U => dots_c la U
    have hd2 := fun U => rdots_c la U
    have hsm := readP_sum la (List.Sublist.refl _)
    generalize readP la = R at *
    generalize cleanP la = C at *
    generalize rightP la = rt at *
    generalize dotsP la = dt at *
    generalize txB la = X at *
    obtain ⟨⟨r1, r2, ps⟩, er⟩ := R
    obtain ⟨A, ec⟩ := C
    simp only at hr1 hr2 hc1 hc2 hsm
    generalize txB A = A2 at *
    have gA : (A2.toList == A2.toList) = true := by simp
    obtain ⟨n, hn⟩ : ∃ n, ps.length = n := ⟨_, rfl⟩
    rw [hn] at hr1 hr2
    have HS := Lib.hid (And.intro hsm hn)
    clear hsm hn lla
    go_upto_region 7 with (first
      | (go_at_call 11
         with_reducible refine (hr1 _).mono ?_
         rintro e w1 ⟨v, rfl, q1, q2⟩
         obtain ⟨s1, c1, rfl, -⟩ := rows_val2 q1
         have N1 := Lib.hid (And.intro q1 q2)
         clear q1 q2 hr1)
      | (go_at_call 17
         with_reducible refine (hr2 _).mono ?_
         rintro e w2 ⟨v, rfl, q1, q2⟩
         obtain ⟨s2, c2, rfl, -⟩ := rows_val2 q1
         have N2 := Lib.hid (And.intro q1 q2)
         clear q1 q2 hr2)
      | (go_at_call 9
         with_reducible refine (hc1 _).mono ?_
         rintro e w3 ⟨rfl, q2⟩
         have N3 := Lib.hid q2
         clear q2 hc1)
      | (go_at_call 18
         with_reducible refine (hc2 _).mono ?_
         rintro e W ⟨rfl, q2⟩
         have N4 := Lib.hid q2
         clear q2 hc2))
    have k1 := Keep.alloc w1 (.cells #[.bool r1, .bool r2, .slice s1 n c1] 28) (fun _ => False)
    have b1 := heap_alloc_eq w1 (.cells #[.bool r1, .bool r2, .slice s1 n c1] 28)
    have k2 := Keep.alloc w2 (.cells #[.bool r1, .bool r2, .slice s2 n c2] 38) (fun _ => False)
    have b2 := heap_alloc_eq w2 (.cells #[.bool r1, .bool r2, .slice s2 n c2] 38)
    have k34 := N3.out.trans N4.out (fun _ q => q.elim)
    have k24 := (N2.out.2.trans k2 (fun _ q => q.elim)).trans k34 (fun _ q => q.elim)
    have b1' := k24.get b1 (fun q => q)
    have b2' := k34.get b2 (fun q => q)
    have p1 := cell_blk b1' 0
    have p2 := cell_blk b1' 1
    have p3 := cell_blk b1' 2
    have q1 := cell_blk b2' 0
    have q2 := cell_blk b2' 1
    have q3 := cell_blk b2' 2
    simp only [List.getElem?_toArray, List.getElem?_cons_zero, List.getElem?_cons_succ] at p1 p2 p3 q1 q2 q3
    have ra := rows_keep (rows_keep N1.out.1 k1 (fun _ _ q => q)) k24 (fun _ _ q => q)
    have rb := rows_keep (rows_keep N2.out.1 k2 (fun _ _ q => q)) k34 (fun _ _ q => q)
    have kw := (N1.out.2.trans k1 (fun _ q => q.elim)).trans k24 (fun _ q => q.elim)
    have hwa : ∀ U, Keep W U (fun _ => False) → Calls Tryd.prog 21 #[.agg #[.bool r1, .bool r2, .slice s1 n c1]] U fun e w' => e = .returned (.string (txB (writeP r1 r2 ps))) ∧ Keep U w' (fun _ => False) := fun U k =>
      write_c (root := r1) (slash := r2) (ps := ps) (by rw [HS.out.2]; exact rows_keep ra k (fun _ _ q => q)) (by have := HS.out; omega) (Nat.le_trans (join_le _) (by have := HS.out; omega))
    have hwb : ∀ U, Keep W U (fun _ => False) → Calls Tryd.prog 22 #[.agg #[.bool r1, .bool r2, .slice s2 n c2]] U fun e w' => e = .returned (.string (txB (writeP r1 r2 ps))) ∧ Keep U w' (fun _ => False) := fun U k =>
      rwrite_c (root := r1) (slash := r2) (ps := ps) (by rw [HS.out.2]; exact rows_keep rb k (fun _ _ q => q)) (by have := HS.out; omega)
    generalize txB (writeP r1 r2 ps) = Z at *
    have gZ : (Z.toList == Z.toList) = true := by simp
    have KS := Lib.hid (show ∀ w' : World, Keep W w' (fun _ => False) → (w'.cell? ⟨w1.heap.size, 0, none⟩ = some (.bool r1) ∧ w'.cell? ⟨w1.heap.size, 1, none⟩ = some (.bool r2) ∧ w'.cell? ⟨w1.heap.size, 2, none⟩ = some (.slice s1 n c1) ∧ w'.cell? ⟨w2.heap.size, 0, none⟩ = some (.bool r1) ∧ w'.cell? ⟨w2.heap.size, 1, none⟩ = some (.bool r2) ∧ w'.cell? ⟨w2.heap.size, 2, none⟩ = some (.slice s2 n c2)) from
      fun w' k => ⟨k.cell p1 (fun q => q), k.cell p2 (fun q => q), k.cell p3 (fun q => q), k.cell q1 (fun q => q), k.cell q2 (fun q => q), k.cell q3 (fun q => q)⟩)
    have LA := Lib.hid (show ∀ U, Keep W U (fun _ => False) → ListIn U (.slice s1 n c1) (ps.map txV) from fun U k => (ListIn.of_own ra).aside k)
    have LB := Lib.hid (show ∀ U, Keep W U (fun _ => False) → ListIn U (.slice s2 n c2) (ps.map txV) from fun U k => (ListIn.of_own rb).aside k)
    have KW := Lib.hid kw
    have M0 := Lib.hid (Keep.refl W (fun _ => False))
    have hpl : ps.length ≤ 1099511627776 := by have := HS.out; omega
    have HPL := Lib.hid hpl
    clear k1 b1 k2 b2 k34 k24 b1' b2' p1 p2 p3 q1 q2 q3 ra rb kw N1 N2 N3 N4 hpl
    generalize w1.heap.size = n1 at *
    generalize w2.heap.size = n2 at *
    go_region_held3 (fun w' => w'.cell? ⟨n1, 0, none⟩ = some (.bool r1) ∧ w'.cell? ⟨n1, 1, none⟩ = some (.bool r2) ∧ w'.cell? ⟨n1, 2, none⟩ = some (.slice s1 n c1) ∧ w'.cell? ⟨n2, 0, none⟩ = some (.bool r1) ∧ w'.cell? ⟨n2, 1, none⟩ = some (.bool r2) ∧ w'.cell? ⟨n2, 2, none⟩ = some (.slice s2 n c2)) (first
      | exact KS.out _ M0.out
      | exact KS.out _ (Keep.drew _ _)
      | exact KS.out _ M1.out
      | exact KS.out _ MA.out
      | exact KS.out _ MB.out
      | exact KS.out _ M9.out) (first
      | (go_at_call 12
         with_reducible refine (sameP (a := ps) (b := ps) (LA.out _ M0.out) (LB.out _ M0.out) HPL.out HPL.out).mono ?_
         rintro e w7 ⟨rfl, q, hq⟩
         have M1 : Hid (Keep W w7 (fun _ => False)) := Lib.hid (by rw [hq]; exact drewN_keep _ _ _)
         rw [show decide (ps = ps) = true from by simp]
         clear hq)
      | (go_at_call 12
         with_reducible refine (sameP (a := ps) (b := ps) (LA.out _ (Keep.drew _ _)) (LB.out _ (Keep.drew _ _)) HPL.out HPL.out).mono ?_
         rintro e w7 ⟨rfl, q, hq⟩
         have M1 : Hid (Keep W w7 (fun _ => False)) := Lib.hid (by rw [hq]; exact (Keep.drew _ _).trans (drewN_keep _ (fun _ => False) _) (fun _ q => q.elim))
         rw [show decide (ps = ps) = true from by simp]
         clear hq)
      | (go_at_call 15
         with_reducible refine (ht1 _).mono ?_
         rintro e wx ⟨rfl, hwx⟩
         rw [hwx]
         clear hwx)
      | (go_at_call 19
         with_reducible refine (ht2 _).mono ?_
         rintro e wx ⟨rfl, hwx⟩
         rw [hwx]
         clear hwx)
      | (go_at_call 16
         with_reducible refine (hd1 _).mono ?_
         rintro e wx ⟨rfl, hwx⟩
         rw [hwx]
         clear hwx)
      | (go_at_call 20
         with_reducible refine (hd2 _).mono ?_
         rintro e wx ⟨rfl, hwx⟩
         rw [hwx]
         clear hwx)
      | (go_at_call 21
         with_reducible refine (hwa _ MB.out).mono ?_
         rintro e w9 ⟨rfl, q⟩
         have MA := Lib.hid (MB.out.trans q (fun _ q => q.elim))
         clear q)
      | (go_at_call 21
         with_reducible refine (hwa _ M1.out).mono ?_
         rintro e w9 ⟨rfl, q⟩
         have MA := Lib.hid (M1.out.trans q (fun _ q => q.elim))
         clear q)
      | (go_at_call 22
         with_reducible refine (hwb _ MA.out).mono ?_
         rintro e w10 ⟨rfl, q⟩
         have MB := Lib.hid (MA.out.trans q (fun _ q => q.elim))
         clear q)
      | (go_at_call 22
         with_reducible refine (hwb _ M1.out).mono ?_
         rintro e w10 ⟨rfl, q⟩
         have MB := Lib.hid (M1.out.trans q (fun _ q => q.elim))
         clear q)
      | (go_at_call 10
         refine (known_c _).mono ?_
         rintro e wx ⟨rfl, q⟩
         have M9 : Hid (Keep W wx (fun _ => False)) := Lib.hid (by first | exact MA.out.trans q (fun _ q => q.elim) | exact MB.out.trans q (fun _ q => q.elim))
         clear q))
    all_goals
      go_wp2
      go_ret
      exact ⟨rfl, KW.out.trans M9.out (fun _ q => q.elim)⟩

theorem reads_below {p : Prop} (x : ByteArray) (w : World) (_ : p) : Calls Tryd.prog 7 #[.string x] w fun r w' => r = .returned (.bool true) ∧ Below w.heap.size w w' :=
  (reads_walk x w).mono fun _ _ h => ⟨h.1, h.2.below (Nat.le_refl _) (fun _ q => q.elim)⟩

end Go.Proofs.YtlbekofkhjkniaaDoor
