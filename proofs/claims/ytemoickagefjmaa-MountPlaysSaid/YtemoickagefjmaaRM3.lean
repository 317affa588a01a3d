/-
  The document's mounts: Up, Down, Unbind, Bind.
-/
import Derived.Test.YtemoickagefjmaaRM2
import Derived.Deep.RegionLaw
namespace Go.Proofs.Ytemoickagefjmaa
open Go Go.RowKit Go.Shelf
set_option linter.unusedSectionVars false
set_option linter.unusedSimpArgs false
set_option linter.unusedVariables false
set_option maxRecDepth 100000
attribute [local go_sem] Oper.semAt_some

theorem over_dead {V : MountV} (h : V.ok) {m : Int} (hg : aget V.live m = none) (n : Int) : V.over m n = none := by
  refine List.find?_eq_none.2 fun x hx q => ?_
  unfold laidAt at q
  simp only [Bool.and_eq_true, decide_eq_true_eq] at q
  have := (h.at_ x hx q.1).2
  rw [q.2.1] at this
  exact aget_noneM.1 hg this

/-- What is known of the document's table, where it is read. -/
theorem rt_row {w : World} {rb : Nat} {R : Nat → Prop} {V : MountV} (h : RTableAt w rb R V) {m : Int} {x : MntV} (hg : aget V.live m = some x) :
    ∃ (j g n cap : Nat), m = j ∧ j < n ∧ (n : Int) = V.made + 1 ∧ w.heap[rb]? = some (.cells #[.slice (some ⟨g, 0, none⟩) n cap] 112 (0, 0)) ∧
      w.cell? ⟨g, j * 4, none⟩ = some (.int .i64 x.am) ∧ w.cell? ⟨g, j * 4 + 1, none⟩ = some (.int .i64 x.an) ∧ w.cell? ⟨g, j * 4 + 2, none⟩ = some (.int .i64 x.top) ∧ w.cell? ⟨g, j * 4 + 3, none⟩ = some (.bool true) ∧ w.frozen? ⟨g, j * 4 + 3, none⟩ = false ∧ g < w.heap.size := by
  obtain ⟨v, rows, h1, h2, h3, h4, h5, h6⟩ := h.ex
  obtain ⟨sa, cap, rfl, hc⟩ := rows_val2 h2
  have hin : 0 ≤ m ∧ m < (rows.length : Int) := by
    by_cases q : m < 0 ∨ (rows.length : Int) ≤ m
    · rw [row_out h6 q] at hg; cases hg
    · omega
  obtain ⟨j, rfl⟩ : ∃ j : Nat, m = j := ⟨m.toNat, by omega⟩
  obtain ⟨r, hr⟩ : ∃ r, rows[j]? = some r := ⟨_, List.getElem?_eq_getElem (by omega)⟩
  have hg2 := row_get h.ok h6 hr
  rw [hg] at hg2
  have hlv : r.live = true := by
    cases hl : r.live with
    | true => rfl
    | false => rw [hl] at hg2; simp at hg2
  rw [hlv] at hg2
  simp only [if_true, Option.some.injEq] at hg2
  subst hg2
  obtain ⟨g, rfl, _, _, hgl⟩ := rows_some h2 (by omega)
  refine ⟨j, g, rows.length, cap, rfl, by omega, h5, h1, ?_, ?_, ?_, ?_, ?_, hgl⟩
  · exact (rows_cell h2 (by rw [← Nat.add_zero (j * 4), flat_get rowC 4 rowC_len hr (by omega)]; rfl)).1
  · exact (rows_cell h2 (by rw [flat_get rowC 4 rowC_len hr (by omega)]; rfl)).1
  · exact (rows_cell h2 (by rw [flat_get rowC 4 rowC_len hr (by omega)]; rfl)).1
  · rw [← hlv]; exact (rows_cell h2 (by rw [flat_get rowC 4 rowC_len hr (by omega)]; rfl)).1
  · exact (rows_cell h2 (u := .bool r.live) (by rw [flat_get rowC 4 rowC_len hr (by omega)]; rfl)).2

theorem rmup_res {W : World} {b : Nat} {m n : Int} {ok : Bool} {T : Array Value} (z : W.heap[b]? = some (.cells #[.int .i64 m, .int .i64 n] 49 (0, 0))) (h4 : T.getD 4 undef = .pointer (some ⟨b, 0, none⟩)) (h5 : T.getD 5 undef = .bool ok) :
    (results Try.f45 T).run Try.prog W = .ok (.tuple #[.agg #[.int .i64 m, .int .i64 n], .bool ok]) W := by
  have y0 : W.cell? ⟨b, 0, none⟩ = some (.int .i64 m) := by rw [cell_blk z]; rfl
  have y1 : W.cell? ⟨b, 1, none⟩ = some (.int .i64 n) := by rw [cell_blk z]; rfl
  have h4' : T[4]?.getD undef = .pointer (some ⟨b, 0, none⟩) := by simpa using h4
  have h5' : T[5]?.getD undef = .bool ok := by simpa using h5
  simp [results, Try.results45, go_sem, h4', h5', y0, y1]

set_option maxHeartbeats 4000000 in
theorem rmup_c {w : World} {rb : Nat} {R : Nat → Prop} {V : MountV} (h : RTableAt w rb R V) (hm : V.made ≤ 1000000) (m n : Int) :
    Calls Try.prog 45 #[.pointer (some ⟨rb, 0, none⟩), .agg #[.int .i64 m, .int .i64 n]] w fun e w' => e = .returned (.tuple #[.agg #[.int .i64 (V.up m n).1, .int .i64 (V.up m n).2.1], .bool (V.up m n).2.2]) ∧ Keep w w' (fun _ => False) := by
  have H := Lib.hid h
  clear h
  obtain ⟨um, un, uok, hu⟩ : ∃ um un uok, V.up m n = (um, un, uok) := ⟨_, _, _, rfl⟩
  rw [hu]
  simp only
  have HU := Lib.hid hu
  clear hu
  go_enter Try.func45, Try.ntmps45
  go_upto_region 1 with (fail)
  obtain ⟨wB, hwB⟩ : ∃ wB, wB = (w.alloc (.cells #[.int .i64 m, .int .i64 n] 49)).alloc (.cells #[.int .i64 0, .int .i64 0] 49) := ⟨_, rfl⟩
  have W0 := boxes2 w (.cells #[.int .i64 m, .int .i64 n] 49) (.cells #[.int .i64 0, .int .i64 0] 49)
  rw [← hwB] at W0
  rw [← hwB]
  clear hwB
  have HB := Lib.hid W0
  have d0 := cell_blk W0.2.1 0
  have d1 := cell_blk W0.2.1 1
  simp only [List.getElem?_toArray, List.getElem?_cons_zero, List.getElem?_cons_succ] at d0 d1
  clear W0
  have fin : ∀ (W' : World) (a b : Int) (ok' : Bool), Hid (MountV.up V m n = (a, b, ok')) → Keep wB W' (fun _ => False) → ∀ (T : Array Value), T.getD 4 undef = .pointer (some ⟨w.heap.size + 1, 0, none⟩) → T.getD 5 undef = .bool ok' →
      bodyPost Try.prog Try.f45 (fun e w' => e = .returned (.tuple #[.agg #[.int .i64 um, .int .i64 un], .bool uok]) ∧ Keep w w' (fun _ => False)) Exit.ret ⟨T, []⟩ ((W'.setCell ⟨w.heap.size + 1, 0, none⟩ (.int .i64 a)).setCell ⟨w.heap.size + 1, 1, none⟩ (.int .i64 b)) := by
    intro W' a b ok' hu2 kW T h4 h5
    have e := HU.out.symm.trans hu2.out
    simp only [Prod.mk.injEq] at e
    obtain ⟨rfl, rfl, rfl⟩ := e
    have s1 := heap_setCell_eq (off := 0) (Value.int .i64 um) (kW.get HB.out.2.2.1 (fun q => q))
    have s2 := heap_setCell_eq (off := 1) (Value.int .i64 un) s1
    exact bodyPost_ret (rmup_res (by simpa using s2) h4 h5) rfl ⟨rfl, ((HB.out.1.aside kW).setNew _ _ (by simp)).setNew _ _ (by simp)⟩
  have HF := Lib.hid fin
  clear fin
  have hi := fun w' (K : Keep wB w' (fun _ => False)) => ris_c ((H.out.aside HB.out.1).aside K) hm m
  have frz : ∀ W', Keep wB W' (fun _ => False) → W'.cell? ⟨w.heap.size + 1, 0, none⟩ = some (.int .i64 0) ∧ W'.cell? ⟨w.heap.size + 1, 1, none⟩ = some (.int .i64 0) ∧ W'.frozen? ⟨w.heap.size + 1, 0, none⟩ = false ∧ W'.frozen? ⟨w.heap.size + 1, 1, none⟩ = false ∧ W'.cell? ⟨w.heap.size, 0, none⟩ = some (.int .i64 m) ∧ W'.cell? ⟨w.heap.size, 1, none⟩ = some (.int .i64 n) := fun W' k => by
    have b1 := k.get HB.out.2.1 (fun q => q)
    have b2 := k.get HB.out.2.2.1 (fun q => q)
    exact ⟨by rw [cell_blk b2]; rfl, by rw [cell_blk b2]; rfl, free_blk b2 _, free_blk b2 _, by rw [cell_blk b1]; rfl, by rw [cell_blk b1]; rfl⟩
  have HZ := Lib.hid frz
  clear frz
  cases hg : aget V.live m with
  | none =>
    have HU2 := Lib.hid (show V.up m n = (m, n, false) by unfold MountV.up; rw [hg])
    rw [hg] at hi
    simp only [Option.isSome_none] at hi
    go_cut [29] (fun s29 wx => s29 = .bool true ∧ Keep wB wx (fun _ => False))
    case first =>
      by_cases h0 : m = 0
      · have g0 : (m == 0) = true := by simpa using h0
        clear h0 hg
        go_quiet (fail)
        go_wp2
        go_meet
        case rel => exact ⟨rfl, drewN_keep _ _ _⟩
      · have g0 : (m == 0) = false := by simpa using h0
        clear h0 hg
        go_quiet (
          (go_at_call 59
           refine Calls.quiet_of_same (hi _ ?_)
           first | exact Keep.refl _ _ | exact Keep.drew _ _ | exact drewN_keep _ _ _))
        go_wp2
        go_meet
        case rel => exact ⟨rfl, drewN_keep _ _ _⟩
    case rest =>
      obtain ⟨rfl, kC⟩ := hcut
      obtain ⟨z0, z1, z2, z3, z4, z5⟩ := HZ.out _ kC
      have HC := Lib.hid kC
      clear d0 d1 kC hi hg
      go_wp2
      exact HF.out _ m n false HU2 HC.out _ rfl rfl
  | some x =>
    rw [hg] at hi
    simp only [Option.isSome_some] at hi
    obtain ⟨j, g, ln, cap, hj, hjl, hln, hb, q0, q1, q2, q3, q4, hgl⟩ := rt_row (H.out.aside HB.out.1) hg
    have c0 : wB.cell? ⟨rb, 0, none⟩ = some (.slice (some ⟨g, 0, none⟩) ln cap) := by rw [cell_blk hb]; rfl
    subst hj
    have g1 : (0 : Int) ≤ (j : Int) := by omega
    have g2 : (j : Int) < (ln : Int) := by omega
    have HG := Lib.hid (And.intro hb (And.intro q0 (And.intro q1 q2)))
    clear hb q0 q1 q3 q4 hln
    by_cases h0 : (j : Int) = 0
    · have HU2 := Lib.hid (show V.up (j : Int) n = ((j : Int), n, false) by unfold MountV.up; rw [hg]; dsimp only; rw [if_pos (.inl h0)])
      have g0 : ((j : Int) == 0) = true := by simpa using h0
      clear h0 hg hi q2 c0
      go_cut [29] (fun s29 wx => s29 = .bool true ∧ Keep wB wx (fun _ => False))
      case first =>
        go_quiet (fail)
        go_wp2
        go_meet
        case rel => exact ⟨rfl, drewN_keep _ _ _⟩
      case rest =>
        obtain ⟨rfl, kC⟩ := hcut
        obtain ⟨z0, z1, z2, z3, z4, z5⟩ := HZ.out _ kC
        have HC := Lib.hid kC
        clear d0 d1 kC
        go_wp2
        exact HF.out _ j n false HU2 HC.out _ rfl rfl
    · have g0 : ((j : Int) == 0) = false := by simpa using h0
      by_cases hn0 : x.top = n
      · have HU2 := Lib.hid (show V.up (j : Int) n = (x.am, x.an, true) by unfold MountV.up; rw [hg]; dsimp only; rw [if_neg (by omega)])
        have g3 : (x.top != n) = false := by simpa using hn0
        clear h0 hg hn0
        go_cut [29] (fun s29 wx => s29 = .bool false ∧ Keep wB wx (fun _ => False))
        case first =>
          go_quiet (
            (go_at_call 59
             refine Calls.quiet_of_same (hi _ ?_)
             first | exact Keep.refl _ _ | exact Keep.drew _ _ | exact drewN_keep _ _ _))
          go_wp2
          go_meet
          case rel => exact ⟨rfl, drewN_keep _ _ _⟩
        case rest =>
          obtain ⟨rfl, kC⟩ := hcut
          obtain ⟨z0, z1, z2, z3, z4, z5⟩ := HZ.out _ kC
          have c0' : wc.cell? ⟨rb, 0, none⟩ = some (.slice (some ⟨g, 0, none⟩) ln cap) := by rw [cell_blk (kC.get HG.out.1 (fun q => q))]; rfl
          have t0 := kC.cell HG.out.2.1 (fun q => q)
          have t1 := kC.cell HG.out.2.2.1 (fun q => q)
          have HC := Lib.hid kC
          clear d0 d1 kC hi c0 q2
          go_wp2
          go_still_tail 9, (by kernel_rfl)
          change wpList _ _ _ _ _ wc.drew
          obtain ⟨wq, hwq⟩ : ∃ wq, wq = wc.drew := ⟨_, rfl⟩
          have kq : Keep wB wq (fun _ => False) := by rw [hwq]; exact HC.out.drewNew
          rw [← hwq]
          clear hwq
          obtain ⟨y0, y1, y2, y3, y4, y5⟩ := HZ.out _ kq
          have HQ := Lib.hid kq
          clear kq z0 z1 z2 z3 z4 z5
          go_wp2
          exact HF.out _ x.am x.an true HU2 HQ.out _ rfl rfl
      · have HU2 := Lib.hid (show V.up (j : Int) n = ((j : Int), n, false) by unfold MountV.up; rw [hg]; dsimp only; rw [if_pos (.inr hn0)])
        have g3 : (x.top != n) = true := by simpa using hn0
        clear h0 hg hn0
        go_cut [29] (fun s29 wx => s29 = .bool true ∧ Keep wB wx (fun _ => False))
        case first =>
          go_quiet (
            (go_at_call 59
             refine Calls.quiet_of_same (hi _ ?_)
             first | exact Keep.refl _ _ | exact Keep.drew _ _ | exact drewN_keep _ _ _))
          go_wp2
          go_meet
          case rel => exact ⟨rfl, drewN_keep _ _ _⟩
        case rest =>
          obtain ⟨rfl, kC⟩ := hcut
          obtain ⟨z0, z1, z2, z3, z4, z5⟩ := HZ.out _ kC
          have HC := Lib.hid kC
          clear d0 d1 kC hi c0 q2
          go_wp2
          exact HF.out _ j n false HU2 HC.out _ rfl rfl

end Go.Proofs.Ytemoickagefjmaa
