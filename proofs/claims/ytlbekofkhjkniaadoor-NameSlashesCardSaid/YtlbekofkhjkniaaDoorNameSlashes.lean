/-
  NameSlashes: the walk.
-/
import Derived.Test.YtlbekofkhjkniaaDoorLong
import Derived.Test.YtlbekofkhjkniaaDoorName1
namespace Go.Proofs.YtlbekofkhjkniaaDoor
open Go Go.RowKit Go.Shelf
set_option linter.unusedSectionVars false
set_option linter.unusedSimpArgs false
set_option linter.unusedVariables false
attribute [local go_sem] Oper.semAt_some

set_option maxRecDepth 100000 in
set_option maxHeartbeats 4000000 in
theorem slashes_walk (n m : Int) (w : World) :
    Calls Tryd.prog 5 #[.int .i64 n, .int .i64 m] w fun r w' => r = .returned (.bool true) ∧ Keep w w' (fun _ => False) := by
  obtain ⟨ti, ti1, ti2, ti3⟩ := u8_info
  have HI := Lib.hid (And.intro ti1 (And.intro ti2 ti3))
  clear ti1 ti2 ti3
  have hz := u8_zero
  have hw1 := within_c w n 0 4200 (by omega) (by omega) (by omega)
  have hw2 := within_c w m 0 4200 (by omega) (by omega) (by omega)
  go_enter Tryd.func5, Tryd.ntmps5
  go_wp2_with (first
    | (go_at_call 13
       refine hw1.mono ?_
       rintro e w1 ⟨q, hq0, hq1, rfl, rfl⟩
       obtain ⟨N, rfl⟩ : ∃ N : Nat, q = N := ⟨q.toNat, by omega⟩
       obtain ⟨P, hP⟩ : ∃ P, P = N + 1 := ⟨_, rfl⟩
       have g1 : IntKind.i64.wrap (1 + (N : Int)) = (P : Int) := by rw [IntWalk.i64_in _ (by omega)]; omega
       have HP := Lib.hid (show 0 < P ∧ P ≤ 4201 by omega)
       clear hq1 hq0 hw1 hP)
    | (go_at_call 13
       refine hw2.mono ?_
       rintro e w1 ⟨q, hq0, hq1, rfl, rfl⟩
       obtain ⟨M, rfl⟩ : ∃ N : Nat, q = N := ⟨q.toNat, by omega⟩
       have HM := Lib.hid hq1
       clear hq1 hq0 hw2)
    | (refine law_make rfl _ _ _ rfl Tryd.underlying35 hz rfl HI.out.1 HI.out.2.1 HI.out.2.2 rfl P rfl (by have := HP.out; omega) ?_
       intro w1 b hb hb1 hk1
       have B := Lib.hid (And.intro hb (And.intro hb1 hk1))
       clear hb hb1 hk1))
  clear g1
  go_loopg [6] P (fun g s6 wr => ∃ k : Nat, s6 = .int .i64 k ∧ k + g = P ∧ ByAt wr b (List.replicate k 47 ++ List.replicate (P - k) 0) ∧ Keep w wr (fun _ => False))
  case atStart => exact ⟨0, rfl, by omega, fill_zero B.out.2.1 47, B.out.2.2⟩
  case round =>
    obtain ⟨k, rfl, hk, hb, hkk⟩ := hrel
    by_cases hlt : k < P
    · have g1 : (k : Int) < (P : Int) := by omega
      have hP2 := HP.out.2
      have c1 : wr.cell? ⟨b, k, none⟩ = some (.int .u8 0) := hb.cell (fill_at 47 hlt)
      have f1 := hb.free k
      have R := Lib.hid (And.intro hb hkk)
      clear hb hkk
      go_wp2
      go_roundg (P - (k + 1))
      case measure => omega
      case rel =>
        refine ⟨k + 1, rfl, by omega, ?_, R.out.2.trans (Keep.setCell wr _ _) (fun x q => .inr (by have q' : x = b := q; have := B.out.1; omega))⟩
        rw [← fill_set 47 hlt]
        exact R.out.1.set k 47
    · have g1 : ¬ (k : Int) < (P : Int) := by omega
      have hkn : k = P := by omega
      have hb2 : ByAt wr b (List.replicate P 47) := by rw [hkn, Nat.sub_self] at hb; simpa using hb
      have R := Lib.hid (And.intro hb2 hkk)
      have hrd := read_c (List.replicate P 47) wr
      clear hb hkk hb2 hkn
      by_cases hbig : 4096 < P
      · have g2 : (4096 : Int) < (P : Int) := by omega
        rw [read_many (by rw [List.length_replicate]; exact hbig)] at hrd
        clear hbig
        go_wp2_with (first
          | (refine law_str rfl _ _ _ rfl Tryd.underlying35 Tryd.underlying5 Tryd.underlying9 rfl (R.out.1.bytes (by simp)) ?_
             rw [str_txB])
          | (go_at_call 11
             refine hrd.mono ?_
             rintro e w2 ⟨v, rfl, q1, q2⟩
             obtain ⟨sa, cap, rfl, hcap⟩ := rows_val2 q1
             have N1 := Lib.hid q2
             clear q1 q2 hrd)
          | (go_at_call 10
             refine (known_c _).mono ?_
             rintro e w9 ⟨rfl, q9⟩
             have N9 := Lib.hid q9
             clear q9))
        go_ret
        exact ⟨rfl, ((R.out.2.trans N1.out (fun _ q => q.elim)).trans (Keep.alloc _ _ (fun _ => False)) (fun _ q => q.elim)).trans N9.out (fun _ q => q.elim)⟩
      · have g2 : ¬ (4096 : Int) < (P : Int) := by omega
        rw [read_slashes HP.out.1 (by omega)] at hrd
        have hPs := HP.out
        have HB := Lib.hid hbig
        clear hbig
        have g3 : ¬ (P : Int) = 0 := by omega
        have g4 : (M : Int).tmod (P : Int) = ((M % P : Nat) : Int) := by rw [Int.tmod_eq_emod_of_nonneg (by omega)]; omega
        have hkl := Nat.mod_lt M hPs.1
        generalize M % P = k2 at *
        have g5 : (k2 : Int) < (P : Int) := by omega
        have HK2 := Lib.hid hkl
        clear hkl hPs
        go_upto_region 14 with (first
          | (refine law_str rfl _ _ _ rfl Tryd.underlying35 Tryd.underlying5 Tryd.underlying9 rfl (R.out.1.bytes (by simp)) ?_
             rw [str_txB])
          | (go_at_call 11
             refine hrd.mono ?_
             rintro e w2 ⟨v, rfl, q1, q2⟩
             obtain ⟨sa, cap, rfl, hcap⟩ := rows_val2 q1
             have N1 := Lib.hid q2
             clear q1 q2 hrd))
        obtain ⟨W2, hW2⟩ : ∃ W2, W2 = w2.alloc (.cells #[.bool true, .bool true, .slice sa 0 cap] 28) := ⟨_, rfl⟩
        have k2k : Keep wr W2 (fun _ => False) := by rw [hW2]; exact N1.out.trans (Keep.alloc _ _ (fun _ => False)) (fun _ q => q.elim)
        have hbW := R.out.1.keep k2k (fun q => q)
        have cb : W2.cell? ⟨b, k2, none⟩ = some (.int .u8 47) := hbW.cell (by rw [List.getElem?_replicate, if_pos HK2.out])
        have fb := hbW.free k2
        have hbS : ByAt (W2.setCell ⟨b, k2, none⟩ (.int .u8 120)) b ((List.replicate P 47).set k2 120) := hbW.set k2 120
        have ksS : Keep w (W2.setCell ⟨b, k2, none⟩ (.int .u8 120)) (fun _ => False) := (R.out.2.trans k2k (fun _ q => q.elim)).trans (Keep.setCell W2 _ _) (fun x q => .inr (by have q' : x = b := q; have := B.out.1; omega))
        have hr2 := read_c ((List.replicate P 47).set k2 120) (W2.setCell ⟨b, k2, none⟩ (.int .u8 120))
        rw [read_one HK2.out (by have := HB.out; omega)] at hr2
        rw [← hW2]
        have S := Lib.hid (And.intro hbS ksS)
        clear hW2 k2k hbW hbS ksS
        have hP2 := HP.out.2
        have gw : IntKind.i64.wrap ((P : Int) - 1) = (P : Int) - 1 := IntWalk.i64_in _ (by omega)
        obtain ⟨r1, hr1⟩ : ∃ r1 : Bool, r1 = decide (0 < k2) := ⟨_, rfl⟩
        obtain ⟨r2, hr2'⟩ : ∃ r2 : Bool, r2 = decide (k2 + 1 < P) := ⟨_, rfl⟩
        rw [← hr1, ← hr2'] at hr2
        have g6 : decide (0 < k2) = r1 := hr1.symm
        have g7 : decide ((k2 : Int) < (P : Int) - 1) = r2 := by rw [hr2']; apply decide_eq_decide.2; omega
        clear hr1 hr2'
        go_wp2_with (first
          | (refine law_str rfl _ _ _ rfl Tryd.underlying35 Tryd.underlying5 Tryd.underlying9 rfl (S.out.1.bytes (by simp)) ?_
             rw [str_txB])
          | (go_at_call 11
             refine hr2.mono ?_
             rintro e w3 ⟨v, rfl, q1, q2⟩
             obtain ⟨sa3, cap3, rfl, hcap3⟩ := rows_val2 q1
             have hb3 := heap_alloc_eq w3 (.cells #[.bool r1, .bool r2, .slice sa3 1 cap3] 28)
             have N3 := Lib.hid (And.intro q1 q2)
             clear q1 q2 hr2 hcap3)
          | (go_at_call 12
             refine (sameP (a := [[120]]) (b := [[120]]) (((ListIn.of_own N3.out.1).aside (Keep.alloc _ _ (fun _ => False))).aside (Keep.alloc _ _ (fun _ => False))) (list_lit _ 9 ([[120]].map txV) rfl rfl (by simp)) (by decide) (by decide)).mono ?_
             rintro e w4 ⟨rfl, q, rfl⟩)
          | (go_at_call 10
             refine (known_c _).mono ?_
             rintro e w9 ⟨rfl, q9⟩
             have N9 := Lib.hid q9
             clear q9))
        go_ret
        refine ⟨rfl, ?_⟩
        exact (((S.out.2.trans N3.out.2 (fun _ q => q.elim)).trans (Keep.alloc _ _ (fun _ => False)) (fun _ q => q.elim)).trans ((Keep.alloc _ _ (fun _ => False)).trans (drewN_keep _ (fun _ => False) _) (fun _ q => q.elim)) (fun _ q => q.elim)).trans N9.out (fun _ q => q.elim)

theorem slashes_below (n m : Int) (w : World) (_ : (Lit.int .i64 n).wf = true) (_ : (Lit.int .i64 m).wf = true) :
    Calls Tryd.prog 5 #[.int .i64 n, .int .i64 m] w fun r w' => r = .returned (.bool true) ∧ Below w.heap.size w w' :=
  (slashes_walk n m w).mono fun _ _ h => ⟨h.1, h.2.below (Nat.le_refl _) (fun _ q => q.elim)⟩

end Go.Proofs.YtlbekofkhjkniaaDoor
