/-
  MountDown: no mount lies at what Down answers; Up of it leads back.
-/
import Derived.Test.YtemoickagefjmaaMountLaw
namespace Go.Proofs.Ytemoickagefjmaa
open Go Go.RowKit Go.Shelf
set_option linter.unusedSectionVars false
set_option linter.unusedSimpArgs false
set_option linter.unusedVariables false
set_option maxRecDepth 100000

set_option maxHeartbeats 2000000 in
theorem mdown_walk (a : Option Addr) (len cap : Nat) (pm pn : Int) (w : World) (h : StructsIs asksM w a len cap) (hz : ∀ z ∈ [pm, pn], (Lit.int .i64 z).wf = true) :
    Calls Try.prog 5 #[.slice a len cap, .agg #[.int .i64 pm, .int .i64 pn]] w fun r w' => r = .returned (.bool true) ∧ Below w.heap.size w w' := by
  have hcap := h.cap
  have hlen : len ≤ 9223372036854775807 := by have := hcap.1; have := hcap.2; unfold maxLen at this; omega
  have H := Lib.hid h
  clear h hcap hz
  go_enter Try.func5, Try.ntmps5
  go_upto_block 0 with (
    go_at_call 30
    refine (mnew_c _ 1).mono ?_
    rintro e w2 ⟨tb, S1, rfl, hp, ht⟩
    have k0 := boxes1 w (.cells #[.int .i64 pm, .int .i64 pn] 49)
    have hsz := k0.2.2
    have C1 := Lib.hid (show MBox w w2 tb S1 (MountV.new 1) w.heap.size (.cells #[.int .i64 pm, .int .i64 pn] 49 (0, 0)) from ⟨MCur.made k0.1 hp ht, ht.keep.get k0.2.1 (fun q => q), fun q => by
      have := (ht.new _ q).elim (fun z => z.elim) id
      omega⟩)
    clear hp ht k0 hsz)
  go_cut [] (fun wx => ∃ S V, MBox w wx tb S V w.heap.size (.cells #[.int .i64 pm, .int .i64 pn] 49 (0, 0)))
  case first =>
    go_wp2_with fail
    go_loopg [6] 30 (fun g s6 wr => ∃ (j : Nat) (S : Nat → Prop) (V : MountV), j ≤ 30 ∧ g = 30 - j ∧ s6 = .int .i64 j ∧ MBox w wr tb S V w.heap.size (.cells #[.int .i64 pm, .int .i64 pn] 49 (0, 0)) ∧ V.made ≤ j ∧ 0 ≤ V.turns ∧ V.turns ≤ 2 * j)
    case atStart => exact ⟨0, S1, _, by omega, rfl, rfl, C1.out, by simp [MountV.new], by simp [MountV.new], by simp [MountV.new]⟩
    case round =>
      obtain ⟨j, S, V, hj, rfl, rfl, hB, hm1, ht0, ht1⟩ := hrel
      have B := Lib.hid hB
      clear hB
      by_cases hlt : j < len
      · by_cases hlt2 : j < 30
        · have g3 : (j : Int) < (len : Int) := by omega
          have g4 : (j : Int) < 30 := by omega
          have g5 : (0 : Int) ≤ (j : Int) := by omega
          obtain ⟨b, off, rfl, hblt, hat⟩ := asksM_at H.out (by omega)
          obtain ⟨k, m, nd, am, an, hA, -⟩ := hat j hlt
          have HA := Lib.hid hA
          obtain ⟨c0, c1, c2, c3, c4⟩ := hA.keep B.out.cur.keep
          clear hat hA
          obtain ⟨wo, rfl⟩ : ∃ wo : World, wo = wr := ⟨_, rfl⟩
          go_upto_region 7 with (fail)
          go_cut [7] (fun s7 wx => ∃ nb x y, s7 = .pointer (some ⟨nb, 0, none⟩) ∧ Keep wo wx (fun _ => False) ∧ wx.heap[nb]? = some (.cells #[.int .i64 x, .int .i64 y] 49 (0, 0)) ∧ wo.heap.size ≤ nb)
          case first =>
            have n1 := World.new_ne wo _ c3
            go_region_held3 (fun w' => w'.cell? ⟨b, off + j * 5 + 3, none⟩ = some (.int .i64 am) ∧ w'.cell? ⟨b, off + j * 5 + 4, none⟩ = some (.int .i64 an)) (go_keep) (
              (go_at_call 31
               refine (within_c _ _ 0 4 (by omega) (by omega) (by omega)).mono ?_
               rintro e w4 ⟨y, hy0, hy1, rfl, rfl⟩))
            all_goals go_wp2
            all_goals go_meet
            all_goals
              refine ⟨_, _, _, rfl, ?_, heap_alloc_eq wo _, Nat.le_refl _⟩
              repeat (first | exact Keep.refl _ _ | refine Keep.drewNew ?_ | refine Keep.allocNew ?_ _)
          case rest =>
            obtain ⟨nb, x, y, rfl, k7, b7, hnb⟩ := hcut
            obtain ⟨d0, d1, d2, d3, d4⟩ := (HA.out.keep B.out.cur.keep).keep k7
            have e0 := cell_blk b7 0
            have e1 := cell_blk b7 1
            simp only [List.getElem?_toArray, List.getElem?_cons_zero, List.getElem?_cons_succ] at e0 e1
            have B1 := Lib.hid (B.out.step k7)
            have hbind := fun (z : Int) w' (K : Keep wc w' (fun _ => False)) => mbind_c (B1.out.step K).cur.tab ⟨ht0, by omega⟩ (by omega) x y z
            have HN := Lib.hid (show ¬ S nb from fun q => by have := B.out.cur.tab.lt _ q; omega)
            clear k7 b7 c0 c1 c2 c3 c4
            go_upto_region 8 with (fail)
            go_cut [] (fun wx => ∃ z S', MBox w wx tb S' (V.bind x y z).1 w.heap.size (.cells #[.int .i64 pm, .int .i64 pn] 49 (0, 0)))
            case first =>
              go_region_held3 (fun w' => (w'.cell? ⟨nb, 0, none⟩ = some (.int .i64 x) ∧ w'.cell? ⟨nb, 1, none⟩ = some (.int .i64 y)) ∧ w'.cell? ⟨b, off + j * 5 + 2, none⟩ = some (.int .i64 nd)) (go_keep) (first
                | (go_at_call 31
                   refine (within_c _ _ 0 4 (by omega) (by omega) (by omega)).mono ?_
                   rintro e w4 ⟨y, hy0, hy1, rfl, rfl⟩)
                | (go_at_call 32
                   refine (hbind _ _ ?_).mono ?_
                   · first | exact Keep.refl _ _ | exact Keep.drew _ _ | exact drewN_keep _ _ _
                   rintro e w5 ⟨rfl, S5, hp5, ht5⟩
                   have B5 := Lib.hid ((B1.out.step (Keep.drew _ _)).turn hp5 ht5)
                   have q0 := ht5.keep.cell (show wc.drew.cell? ⟨nb, 0, none⟩ = _ from e0) HN.out
                   have q1 := ht5.keep.cell (show wc.drew.cell? ⟨nb, 1, none⟩ = _ from e1) HN.out
                   have q2 := (HA.out.keep B5.out.cur.keep).c2
                   clear hp5 ht5))
              all_goals go_wp2
              all_goals go_meet
              all_goals exact ⟨_, _, B5.out⟩
            case rest =>
              obtain ⟨z, S6, hB6⟩ := hcut
              have B6 := Lib.hid hB6
              have hcn := MountV.bind_counts V x y z
              generalize (V.bind x y z).1 = V6 at *
              obtain ⟨r0, r1, r2, r3, r4⟩ := HA.out.keep hB6.cur.keep
              have hunb := fun (q : Int) => munbind_c hB6.cur.tab ⟨by omega, by omega⟩ q
              clear hB6 hbind d0 d1 d2 d3 d4 e0 e1
              by_cases hk2 : k = 2
              · subst hk2
                go_wp2_with (first
                  | (go_at_call 31
                     refine (within_c _ _ 0 6 (by omega) (by omega) (by omega)).mono ?_
                     rintro e w4 ⟨y, hy0, hy1, rfl, rfl⟩)
                  | (go_at_call 36
                     refine (hunb _).mono ?_
                     rintro e w7 ⟨rfl, S7, hp7, ht7⟩
                     have B7 := Lib.hid (B6.out.turn hp7 ht7)
                     have hcn7 := MountV.unbind_counts V6 y
                     clear hp7 ht7 hunb))
                go_roundg (30 - (j + 1))
                case measure => omega
                case rel => exact ⟨j + 1, S7, _, by omega, rfl, by go_num, B7.out, by omega, by omega, by omega⟩
              · have g9 : (k == 2) = false := by simpa using hk2
                go_wp2
                go_roundg (30 - (j + 1))
                case measure => omega
                case rel => exact ⟨j + 1, S6, V6, by omega, rfl, by go_num, B6.out, by omega, by omega, by omega⟩
        · have g3 : (j : Int) < (len : Int) := by omega
          have g4 : ¬ (j : Int) < 30 := by omega
          go_wp2
          go_meet
          case rel => exact ⟨S, V, B.out⟩
      · have g3 : ¬ (j : Int) < (len : Int) := by omega
        go_wp2
        go_meet
        case rel => exact ⟨S, V, B.out⟩
  case rest =>
    obtain ⟨S, V, hB⟩ := hcut
    have B := Lib.hid hB
    have p0 : wc.cell? ⟨w.heap.size, 0, none⟩ = some (.int .i64 pm) := by rw [cell_blk hB.box]; rfl
    have p1 : wc.cell? ⟨w.heap.size, 1, none⟩ = some (.int .i64 pn) := by rw [cell_blk hB.box]; rfl
    have f0 : wc.frozen? ⟨w.heap.size, 0, none⟩ = false := free_blk hB.box _
    have f1 : wc.frozen? ⟨w.heap.size, 1, none⟩ = false := free_blk hB.box _
    clear hB
    go_upto_region 11 with (fail)
    go_cut [] (fun wx => ∃ x y, MBox w wx tb S V w.heap.size (.cells #[.int .i64 x, .int .i64 y] 49 (0, 0)))
    case first =>
      go_region_with (
        go_at_call 31
        refine (within_c _ _ 0 4 (by omega) (by omega) (by omega)).mono ?_
        rintro e w4 ⟨y, hy0, hy1, rfl, rfl⟩)
      all_goals go_wp2
      all_goals go_meet
      all_goals exact ⟨_, _, (B.out.set2 (Nat.le_refl _) _ _).step (Keep.drew _ _)⟩
    case rest =>
      obtain ⟨x, y, hB2⟩ := hcut
      have B2 := Lib.hid hB2
      have p0 : wc.cell? ⟨w.heap.size, 0, none⟩ = some (.int .i64 x) := by rw [cell_blk hB2.box]; rfl
      have p1 : wc.cell? ⟨w.heap.size, 1, none⟩ = some (.int .i64 y) := by rw [cell_blk hB2.box]; rfl
      have hd := mdown_c hB2.cur.tab x y
      obtain ⟨kp, hkp, hpath⟩ := MPath.down (p := (x, y)) hB2.cur.tab.ok (V.rank x) 0 x y (Nat.le_refl _) .zero
      have hkp8 := MountV.rank_le hB2.cur.tab.ok x
      have hdd := MountV.down_down hB2.cur.tab.ok x y
      obtain ⟨dm, dn, hdm⟩ : ∃ dm dn, V.down x y = (dm, dn) := ⟨_, _, rfl⟩
      rw [hdm] at hd hpath hdd
      simp only at hd hdd
      have HP := Lib.hid (And.intro hpath hdd)
      have hkl : kp ≤ 8 := by omega
      clear hB2 hpath hdd hdm hkp hkp8
      clear f0 f1
      go_upto_region 13 with (
        go_at_call 37
        refine hd.mono ?_
        rintro e w5 ⟨rfl, hk5⟩
        have B5 := Lib.hid (B2.out.step hk5)
        clear hk5 hd)
      obtain ⟨wE, hwE⟩ : ∃ wE, wE = w5.alloc (.cells #[.int .i64 dm, .int .i64 dn] 49) := ⟨_, rfl⟩
      have kE := boxes1 w5 (.cells #[.int .i64 dm, .int .i64 dn] 49)
      rw [← hwE] at kE
      rw [← hwE]
      clear hwE p0 p1
      have BE := Lib.hid (And.intro (B5.out.step kE.1) kE.2.1)
      have e0 := cell_blk kE.2.1 0
      have e1 := cell_blk kE.2.1 1
      simp only [List.getElem?_toArray, List.getElem?_cons_zero, List.getElem?_cons_succ] at e0 e1
      have hd2 := fun w' (K : Keep wE w' (fun _ => False)) => mdown_c (BE.out.1.step K).cur.tab dm dn
      rw [HP.out.2] at hd2
      simp only at hd2
      clear kE
      go_cut [83] (fun s83 wx => s83 = .bool false ∧ Keep wE wx (fun _ => False))
      case first =>
        go_region_held3 (fun w' => w'.cell? ⟨w5.heap.size, 0, none⟩ = some (.int .i64 dm) ∧ w'.cell? ⟨w5.heap.size, 1, none⟩ = some (.int .i64 dn)) (go_keep) (
          (go_at_call 37
           refine (hd2 _ ?_).mono ?_
           · first | exact Keep.refl _ _ | exact Keep.drew _ _ | exact drewN_keep _ _ _
           rintro e w6 ⟨rfl, hk6⟩
           have q0 := hk6.cell (show _ = _ from e0) (fun q => q)
           have q1 := hk6.cell (show _ = _ from e1) (fun q => q)
           have K6 := Lib.hid hk6
           clear hk6))
        all_goals go_wp2
        all_goals go_meet
        all_goals exact ⟨rfl, (Keep.drew wE (fun _ => False)).aside K6.out⟩
      case rest =>
        obtain ⟨rfl, kF⟩ := hcut
        have BF := Lib.hid (And.intro (BE.out.1.step kF) (kF.get BE.out.2 (fun q => q)))
        have r0 := kF.cell e0 (fun q => q)
        have r1 := kF.cell e1 (fun q => q)
        clear kF e0 e1 hd2
        go_wp2_with fail
        obtain ⟨wQ, hwQ⟩ : ∃ wQ, wQ = wc.alloc (.cells #[.int .i64 dm, .int .i64 dn] 49) := ⟨_, rfl⟩
        have kQ := boxes1 wc (.cells #[.int .i64 dm, .int .i64 dn] 49)
        rw [← hwQ] at kQ
        rw [← hwQ]
        have BQ := Lib.hid (And.intro (BF.out.1.step kQ.1) kQ.2.1)
        have hqs : ¬ S wc.heap.size := fun q => Nat.lt_irrefl _ (BF.out.1.cur.tab.lt _ q)
        have hqp : w.heap.size < wc.heap.size := lt_of_blk BF.out.1.box
        have HQ := Lib.hid hqs
        clear hwQ kQ hqs r0 r1
        go_loopg [10] kp (fun g s10 wr => ∃ (j k : Nat) (a b : Int), s10 = .int .i64 j ∧ g = k ∧ j + k = kp ∧ MPath V (x, y) k (a, b) ∧ MBox w wr tb S V w.heap.size (.cells #[.int .i64 x, .int .i64 y] 49 (0, 0)) ∧ wr.heap[wc.heap.size]? = some (.cells #[.int .i64 a, .int .i64 b] 49 (0, 0)))
        case atStart => exact ⟨0, kp, dm, dn, rfl, rfl, by omega, HP.out.1, BQ.out.1, BQ.out.2⟩
        case round =>
          obtain ⟨j, k, a, b, rfl, hgk, hjk, hpa, hB, hq⟩ := hrel
          have p0 : wr.cell? ⟨w.heap.size, 0, none⟩ = some (.int .i64 x) := by rw [cell_blk hB.box]; rfl
          have p1 : wr.cell? ⟨w.heap.size, 1, none⟩ = some (.int .i64 y) := by rw [cell_blk hB.box]; rfl
          have q0 : wr.cell? ⟨wc.heap.size, 0, none⟩ = some (.int .i64 a) := by rw [cell_blk hq]; rfl
          have q1 : wr.cell? ⟨wc.heap.size, 1, none⟩ = some (.int .i64 b) := by rw [cell_blk hq]; rfl
          have g1 : (j : Int) < 20 := by omega
          have Z := Lib.hid (And.intro hB (And.intro hq (And.intro hgk (And.intro hjk hpa))))
          clear hB hq hgk hjk
          obtain ⟨wo, rfl⟩ : ∃ wo : World, wo = wr := ⟨_, rfl⟩
          cases k with
          | zero =>
            cases hpa
            go_wp2_with (
              go_at_call 35
              refine (mknown_c _).mono ?_
              rintro e w9 ⟨rfl, hk9⟩
              have M9 := Lib.hid hk9
              clear hk9)
            go_ret
            exact ⟨by simp, (Z.out.1.step M9.out).cur.below⟩
          | succ k =>
            obtain ⟨m, n, hpb, hup, hroot, hne⟩ := MPath.back Z.out.1.cur.tab.ok hpa
            have hne' : ¬ a = x := fun q => by have := MPath.ge Z.out.1.cur.tab.ok hpa; simp only at this; omega
            have hr := mroot_c Z.out.1.cur.tab a
            rw [hroot] at hr
            simp only at hr
            have HPB := Lib.hid (And.intro hpb hup)
            clear hpb hup hroot hne hpa
            go_wp2_with (first
              | (go_at_call 38
                 refine hr.mono ?_
                 rintro e w6 ⟨rfl, hk6⟩
                 have k6 := hk6.get Z.out.2.1 (fun q => q)
                 have t0 : w6.cell? ⟨wc.heap.size, 0, none⟩ = some (.int .i64 a) := by rw [cell_blk k6]; rfl
                 have t1 : w6.cell? ⟨wc.heap.size, 1, none⟩ = some (.int .i64 b) := by rw [cell_blk k6]; rfl
                 have hu := mup_c (Z.out.1.step hk6).cur.tab a b
                 rw [HPB.out.2] at hu
                 simp only at hu
                 have Y6 := Lib.hid (And.intro hk6 k6)
                 clear hk6 k6 hr)
              | (go_at_call 34
                 refine hu.mono ?_
                 rintro e w7 ⟨rfl, hk7⟩
                 have k7 := hk7.get Y6.out.2 (fun q => q)
                 have v0 : w7.cell? ⟨wc.heap.size, 0, none⟩ = some (.int .i64 a) := by rw [cell_blk k7]; rfl
                 have v1 : w7.cell? ⟨wc.heap.size, 1, none⟩ = some (.int .i64 b) := by rw [cell_blk k7]; rfl
                 have vf0 := free_blk k7 0
                 have vf1 := free_blk k7 1
                 have hlt7 := lt_of_blk k7
                 have Y7 := Lib.hid (And.intro (Y6.out.1.aside hk7) k7)
                 clear hk7 k7 hu))
            have s1 := heap_setCell_eq (off := 0) (Value.int .i64 m) Y7.out.2
            have s2 := heap_setCell_eq (off := 1) (Value.int .i64 n) s1
            have ks : Keep w7 ((w7.setCell ⟨wc.heap.size, 0, none⟩ (.int .i64 m)).setCell ⟨wc.heap.size, 1, none⟩ (.int .i64 n)) (fun b => b = wc.heap.size) := (Keep.setCell _ _ _).trans (Keep.setCell _ _ _) (fun b q => .inl q)
            have ka := Keep.alloc ((w7.setCell ⟨wc.heap.size, 0, none⟩ (.int .i64 m)).setCell ⟨wc.heap.size, 1, none⟩ (.int .i64 n)) (.cells #[.int .i64 m, .int .i64 n] 49) (fun _ => False)
            have hend := Lib.hid (And.intro (((Z.out.1.step Y7.out.1).beside ks (fun b q => ⟨by omega, by rw [q]; exact HQ.out, by omega⟩)).step ka) (ka.get s2 (fun q => q)))
            go_roundg k
            case measure => have := Z.out.2.2.1; omega
            case rel => exact ⟨j + 1, k, m, n, by go_num, rfl, by have := Z.out.2.2.2.1; omega, HPB.out.1, hend.out.1, by simpa using hend.out.2⟩

end Go.Proofs.Ytemoickagefjmaa
