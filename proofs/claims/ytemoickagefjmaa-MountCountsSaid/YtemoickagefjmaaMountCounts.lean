/-
  MountCounts: what Bind and Unbind count; every mount but the root's lies over one.
-/
import Derived.Test.YtemoickagefjmaaMountSum
import Derived.Deep.QuietTactic
namespace Go.Proofs.Ytemoickagefjmaa
open Go Go.RowKit Go.Shelf
set_option linter.unusedSectionVars false
set_option linter.unusedSimpArgs false
set_option linter.unusedVariables false
set_option maxRecDepth 100000

set_option maxHeartbeats 8000000 in
theorem mcounts_walk (a : Option Addr) (len cap : Nat) (w : World) (h : StructsIs asksM w a len cap) :
    Calls Try.prog 6 #[.slice a len cap] w fun r w' => r = .returned (.bool true) ∧ Below w.heap.size w w' := by
  have hcap := h.cap
  have hlen : len ≤ 9223372036854775807 := by have := hcap.1; have := hcap.2; unfold maxLen at this; omega
  have H := Lib.hid h
  clear h hcap
  go_enter Try.func6, Try.ntmps6
  go_upto_block 0 with (
    go_at_call 30
    refine (mnew_c _ 1).mono ?_
    rintro e w2 ⟨tb, S1, rfl, hp, ht⟩
    have C1 := Lib.hid (show MCur w w2 tb S1 (MountV.new 1) from MCur.made (Keep.refl w _) hp ht)
    clear hp ht)
  go_cut [] (fun wx => ∃ S V, MCur w wx tb S V)
  case first =>
    go_wp2_with fail
    go_loopg [4, 5] 40 (fun g s4 s5 wr => ∃ (j : Nat) (S : Nat → Prop) (V : MountV), j ≤ 40 ∧ g = 40 - j ∧ s4 = .int .i64 (V.made + 1) ∧ s5 = .int .i64 j ∧ MCur w wr tb S V ∧ V.made ≤ j ∧ 0 ≤ V.turns ∧ V.turns ≤ j)
    case atStart => exact ⟨0, S1, _, by omega, rfl, rfl, rfl, C1.out, by simp [MountV.new], by simp [MountV.new], by simp [MountV.new]⟩
    case round =>
      obtain ⟨j, S, V, hj, rfl, rfl, rfl, hB, hm1, ht0, ht1⟩ := hrel
      have hm0 := hB.tab.ok.made0
      have hmost : V.list.length ≤ 8 := by unfold MountV.list; rw [List.length_map]; exact hB.tab.ok.most
      have B := Lib.hid hB
      clear hB C1
      by_cases hlt : j < len
      · by_cases hlt2 : j < 40
        · have g3 : (j : Int) < (len : Int) := by omega
          have g4 : (j : Int) < 40 := by omega
          have g5 : (0 : Int) ≤ (j : Int) := by omega
          obtain ⟨b, off, rfl, hblt, hat⟩ := asksM_at H.out (by omega)
          obtain ⟨k, m, nd, am, an, hA, -⟩ := hat j hlt
          have HA := Lib.hid hA
          obtain ⟨c0, c1, c2, c3, c4⟩ := hA.keep B.out.keep
          clear hat hA
          obtain ⟨wo, rfl⟩ : ∃ wo : World, wo = wr := ⟨_, rfl⟩
          go_upto_region 8 with (fail)
          go_cut [6] (fun s6 wx => ∃ nb x y, s6 = .pointer (some ⟨nb, 0, none⟩) ∧ Keep wo wx (fun _ => False) ∧ wx.heap[nb]? = some (plc x y) ∧ wo.heap.size ≤ nb)
          case first =>
            have n1 := World.new_ne wo _ c3
            go_region_held3 (fun w' => w'.cell? ⟨b, off + j * 5 + 3, none⟩ = some (.int .i64 am) ∧ w'.cell? ⟨b, off + j * 5 + 4, none⟩ = some (.int .i64 an)) (go_keep) (
              (go_at_call 31
               refine (within_c _ _ 0 6 (by omega) (by omega) (by omega)).mono ?_
               rintro e w4 ⟨y, hy0, hy1, rfl, rfl⟩))
            all_goals go_wp2
            all_goals go_meet
            all_goals first
              | (refine ⟨_, _, _, rfl, ?_, heap_alloc_eq wo _, Nat.le_refl _⟩
                 repeat (first | exact Keep.refl _ _ | refine Keep.drewNew ?_ | refine Keep.allocNew ?_ _))
              | trace_state
          case rest =>
            obtain ⟨nb, x, y, rfl, k9, b9, hnb⟩ := hcut
            have U1 := Lib.hid (B.out.step k9)
            have hl := mlist_c U1.out.tab
            have HN := Lib.hid (And.intro b9 (show ¬ S nb from fun q => by have := B.out.tab.lt _ q; omega))
            obtain ⟨n, hn⟩ : ∃ n, V.list.length = n := ⟨_, rfl⟩
            rw [hn] at hl hmost
            clear k9 b9 c0 c1 c2 c3 c4 B
            go_upto_region 10 with (
              go_at_call 33
              refine hl.mono ?_
              rintro e w6 ⟨v, rfl, ho, k6, hv⟩
              obtain ⟨sa, cp, rfl, hcp⟩ := rows_val2 ho
              have U6 := Lib.hid (U1.out.step k6)
              have N6 := Lib.hid (And.intro (k6.get HN.out.1 (fun q => q)) HN.out.2)
              clear ho k6 hv hl)
            obtain ⟨d0, d1, d2, d3, d4⟩ := HA.out.keep U6.out.keep
            have hn2 := Lib.hid hn
            clear hn HN U1
            by_cases hk2 : k = 2
            · subst hk2
              have hab := fun q => mabv_c U6.out.tab q
              go_upto_region 15 with (first
                | (go_at_call 31
                   refine (within_c _ _ 0 8 (by omega) (by omega) (by omega)).mono ?_
                   rintro e w4 ⟨mm, hy0, hy1, rfl, rfl⟩)
                | (go_at_call 39
                   refine (hab _).mono ?_
                   rintro e w7 ⟨v, rfl, ho, k7, hv⟩
                   obtain ⟨sb, cq, rfl, hcq⟩ := rows_val2 ho
                   have U7 := Lib.hid (U6.out.step k7)
                   have hro := mroot_c U7.out.tab mm
                   have hal := V.above_le mm
                   have huw := V.unbind_ways mm
                   obtain ⟨na, hna⟩ : ∃ na, (V.above mm).length = na := ⟨_, rfl⟩
                   obtain ⟨rq, rb, hrq⟩ : ∃ rq rb, V.root_ mm = (rq, rb) := ⟨_, _, rfl⟩
                   obtain ⟨V8, e8, he8⟩ : ∃ V8 e8, V.unbind mm = (V8, e8) := ⟨_, _, rfl⟩
                   rw [hna, hrq, he8, hn2.out] at huw
                   rw [hna, hn2.out] at hal
                   rw [hna]
                   rw [hrq] at hro
                   simp only at hro
                   have HQ := Lib.hid (And.intro huw he8)
                   clear ho k7 hv hab huw hrq he8 hna)
                | (go_at_call 38
                   refine hro.mono ?_
                   rintro e w8 ⟨rfl, k8⟩
                   have U8 := Lib.hid (U7.out.step k8)
                   have hun := munbind_c U8.out.tab ⟨ht0, by omega⟩ mm
                   rw [HQ.out.2] at hun
                   simp only at hun
                   clear k8 hro)
                | (go_at_call 36
                   refine hun.mono ?_
                   rintro e w9 ⟨rfl, S9, hp9, ht9⟩
                   have U9 := Lib.hid (U8.out.turn hp9 ht9)
                   clear hp9 ht9 hun))
              have hcn := V.unbind_counts mm
              have HQ1 := HQ.out.1
              rw [HQ.out.2] at hcn
              simp only at hcn
              rcases HQ1 with ⟨e, he, hve, hw3⟩ | ⟨hz, ⟨q, hq⟩, hna0, V', hve, hl8⟩
              · obtain ⟨rfl, rfl⟩ := Prod.mk.injEq _ _ _ _ ▸ hve
                have g74 : (e8 == 0) = false := by simpa using he
                rcases hw3 with hz | ⟨hz, q, hq⟩ | ⟨hz, ⟨q, hq⟩, hz2⟩
                · subst hz
                  go_wp2
                  go_roundg (40 - (j + 1))
                  case measure => omega
                  case rel => exact ⟨j + 1, S9, _, by omega, rfl, rfl, by go_num, U9.out, by omega, by omega, by omega⟩
                · obtain ⟨rfl, rfl⟩ := Prod.mk.injEq _ _ _ _ ▸ hq
                  have g76 : (mm != 0) = true := by simpa using hz
                  go_wp2
                  go_roundg (40 - (j + 1))
                  case measure => omega
                  case rel => exact ⟨j + 1, S9, _, by omega, rfl, rfl, by go_num, U9.out, by omega, by omega, by omega⟩
                · obtain ⟨rfl, rfl⟩ := Prod.mk.injEq _ _ _ _ ▸ hq
                  have g76 : (mm != 0) = true := by simpa using hz
                  have g82 : ((na : Int) == 0) = false := by simp; omega
                  go_wp2
                  go_roundg (40 - (j + 1))
                  case measure => omega
                  case rel => exact ⟨j + 1, S9, _, by omega, rfl, rfl, by go_num, U9.out, by omega, by omega, by omega⟩
              · obtain ⟨rfl, rfl⟩ := Prod.mk.injEq _ _ _ _ ▸ hve
                obtain ⟨rfl, rfl⟩ := Prod.mk.injEq _ _ _ _ ▸ hq
                subst hna0
                have g76 : (mm != 0) = true := by simpa using hz
                have hl9 := mlist_c U9.out.tab
                obtain ⟨n8, hn8⟩ : ∃ n8, V8.list.length = n8 := ⟨_, rfl⟩
                rw [hn8] at hl8 hl9
                have g95 : ((n8 : Int) != (n : Int) - 1) = false := by simp; omega
                clear hn8
                go_wp2_with (
                  go_at_call 33
                  refine hl9.mono ?_
                  rintro e w10 ⟨v, rfl, ho, k10, hv⟩
                  obtain ⟨sd, cs, rfl, hcs⟩ := rows_val2 ho
                  have UA := Lib.hid (U9.out.step k10)
                  clear ho k10 hv hl9)
                go_roundg (40 - (j + 1))
                case measure => omega
                case rel => exact ⟨j + 1, S9, _, by omega, rfl, by rw [hcn.1], by go_num, UA.out, by omega, by omega, by omega⟩
            · have g9 : (k == 2) = false := by simpa using hk2
              obtain ⟨wq, rfl⟩ : ∃ wq : World, wq = w6 := ⟨_, rfl⟩
              have hbind := fun w' (K : Keep wq w' (fun _ => False)) => mbind_c (U6.out.step K).tab ⟨ht0, by omega⟩ (by omega) x y nd
              have e0 : wq.cell? ⟨nb, 0, none⟩ = some (.int .i64 x) := by rw [cell_blk N6.out.1]; rfl
              have e1 : wq.cell? ⟨nb, 1, none⟩ = some (.int .i64 y) := by rw [cell_blk N6.out.1]; rfl
              go_upto_region 17 with (fail)
              go_cut [13, 14] (fun s13 s14 wx => ∃ wy S5 V5 rn re, V.bind x y nd = (V5, rn, re) ∧ s13 = .int .i64 rn ∧ s14 = .int .i64 re ∧ Keep wq wy (fun _ => False) ∧ TableAt wx tb S5 V5 ∧ TurnM wy S wx S5)
              case first =>
                go_region_held3 (fun w' => (w'.cell? ⟨nb, 0, none⟩ = some (.int .i64 x) ∧ w'.cell? ⟨nb, 1, none⟩ = some (.int .i64 y)) ∧ w'.cell? ⟨b, off + j * 5 + 2, none⟩ = some (.int .i64 nd)) (go_keep) (
                  (go_at_call 32
                   refine (hbind _ ?_).mono ?_
                   · first | exact Keep.refl _ _ | exact Keep.drew _ _ | exact drewN_keep _ _ _
                   rintro e w5 ⟨rfl, S5, hp5, ht5⟩
                   have q0 := ht5.keep.cell (show wq.drew.cell? ⟨nb, 0, none⟩ = _ from e0) N6.out.2
                   have q1 := ht5.keep.cell (show wq.drew.cell? ⟨nb, 1, none⟩ = _ from e1) N6.out.2
                   have q2 := (HA.out.keep ((U6.out.step (Keep.drew _ _)).turn hp5 ht5).keep).c2))
                all_goals go_wp2
                all_goals go_meet
                all_goals exact ⟨_, _, _, _, _, rfl, rfl, rfl, Keep.drew _ _, hp5, ht5⟩
              case rest =>
                obtain ⟨wy, S5, V5, rn, re, hb5, rfl, rfl, ky, hp5, ht5⟩ := hcut
                have U5 := Lib.hid ((U6.out.step ky).turn hp5 ht5)
                have hl5 := mlist_c hp5
                clear hbind e0 e1
                rcases V.bind_ways x y nd with ⟨er, hbe, her⟩ | hbe
                · rw [hbe] at hb5
                  obtain ⟨rfl, rfl, rfl⟩ : V = V5 ∧ 0 = rn ∧ er = re := by simpa only [Prod.mk.injEq] using hb5
                  have g59 : (er == 0) = false := by simpa using her
                  rw [hn2.out] at hl5
                  clear hp5 ht5 hbe ky hb5
                  go_wp2_with (
                    go_at_call 33
                    refine hl5.mono ?_
                    rintro e w10 ⟨v, rfl, ho, k10, hv⟩
                    obtain ⟨sd, cs, rfl, hcs⟩ := rows_val2 ho
                    have UA := Lib.hid (U5.out.step k10)
                    clear ho k10 hv hl5)
                  go_roundg (40 - (j + 1))
                  case measure => omega
                  case rel => exact ⟨j + 1, S5, V, by omega, rfl, rfl, by go_num, UA.out, by omega, by omega, by omega⟩
                · rw [hbe] at hb5
                  obtain ⟨rfl, rfl, rfl⟩ : _ = V5 ∧ V.made + 1 = rn ∧ 0 = re := by simpa only [Prod.mk.injEq] using hb5
                  obtain ⟨xo, hxo⟩ := MountV.bind_over (V := V) (m := x) (n := y) (node := nd) (t := V.turns + 1) hm0
                  have haw := MountV.down_away hp5.ok hxo
                  obtain ⟨V6, hV6⟩ : ∃ V6 : MountV, V6 = ⟨V.made + 1, V.turns + 1, V.live ++ [(V.made + 1, ⟨nd, x, y⟩)]⟩ := ⟨_, rfl⟩
                  have hln : V6.list.length = n + 1 := by rw [hV6, ← hn2.out]; unfold MountV.list; simp
                  have hmd : V6.made = V.made + 1 := by rw [hV6]
                  have htd : V6.turns = V.turns + 1 := by rw [hV6]
                  rw [← hV6] at U5 hl5 haw
                  have hdw := fun w' (K : Keep wc w' (fun _ => False)) => (mdown_c (U5.out.step K).tab x y).mono fun e w2 (h : _ ∧ _) => And.intro h.1 (K.aside h.2)
                  obtain ⟨dm, dn, hdm⟩ : ∃ dm dn, V6.down x y = (dm, dn) := ⟨_, _, rfl⟩
                  rw [hdm] at hdw haw
                  simp only at hdw haw
                  obtain ⟨n5, hn5⟩ : ∃ n5, V6.list.length = n5 := ⟨_, rfl⟩
                  have hl5' := fun w1 (K : Keep wc w1 (fun _ => False)) => (mlist_c (U5.out.step K).tab).mono fun e w2 h => (show ∃ v, e = .returned v ∧ w2.ownsRow 0 3 1 v V6.list.length (V6.list.map (Value.int .i64)) ∧ Keep wc w2 (fun _ => False) from by
                    obtain ⟨v, h1, h2, h3, _⟩ := h; exact ⟨v, h1, h2, K.aside h3⟩)
                  rw [hn5] at hl5' hln
                  have b9x := ht5.keep.get (ky.get N6.out.1 (fun q => q)) N6.out.2
                  have p0 : wc.cell? ⟨nb, 0, none⟩ = some (.int .i64 x) := by rw [cell_blk b9x]; rfl
                  have p1 : wc.cell? ⟨nb, 1, none⟩ = some (.int .i64 y) := by rw [cell_blk b9x]; rfl
                  have p2 := (HA.out.keep U5.out.keep).c2
                  have PP := Lib.hid (And.intro p0 (And.intro p1 p2))
                  have g121 : ((n5 : Int) != (n : Int) + 1) = false := by simp; omega
                  have hn58 : n5 ≤ 9 := by omega
                  clear hp5 ht5 hbe ky hb5 hl5 hV6 hdm hxo hn5 b9x
                  obtain ⟨mq, hmq⟩ : ∃ mq, mq = V.made + 1 := ⟨_, rfl⟩
                  rw [← hmq] at hmd ⊢
                  have hmq2 := Lib.hid (And.intro hmq (And.intro hmd htd))
                  have hmq3 : -9223372036854775808 ≤ mq + 1 ∧ mq + 1 ≤ 9223372036854775807 := by omega
                  have gw : ((n5 : Int) != IntKind.wrap .i64 ((n : Int) + 1)) = false := by
                    rw [show IntKind.wrap .i64 ((n : Int) + 1) = (n : Int) + 1 by rw [IntKind.wrap_i64]; omega]
                    exact g121
                  have g113 : (mq != mq) = false := by simp
                  have g128 : (dm == x) = false := by simpa using haw
                  clear hmq hmd htd hln
                  go_upto_region 19 with (fail)
                  go_cut [139] (fun s139 wx => s139 = .bool false ∧ Keep wc wx (fun _ => False))
                  case first =>
                    refine wp_region_held_drew (S := fun w' => w'.cell? ⟨nb, 0, none⟩ = some (.int .i64 x) ∧ w'.cell? ⟨nb, 1, none⟩ = some (.int .i64 y)) (by kernel_rfl) ⟨p0, p1⟩ (fun hHeld => ?_)
                    refine wpAnyH_take (i := 0) (v := ?_) rfl (by kernel_rfl) (by kernel_rfl) (by kernel_rfl) (fun _ _ _ h => h) (Or.inl ⟨by rfl, ?_⟩) (by assumption) ?_
                    rotate_left
                    · intro w hSw; (try dsimp only at hSw); go_simp; try with_reducible rfl
                    try simp only [Act.put, List.setIfInBounds_toArray, List.set_cons_zero, List.set_cons_succ, List.getElem_toArray, List.getElem_cons_zero, List.getElem_cons_succ]
                    refine wpAnyH_take (i := 1) (v := ?_) rfl (by kernel_rfl) (by kernel_rfl) (by kernel_rfl) (fun _ _ _ h => h) (Or.inl ⟨by rfl, ?_⟩) (by assumption) ?_
                    rotate_left
                    · intro w hSw; (try dsimp only at hSw); go_simp; try with_reducible rfl
                    try simp only [Act.put, List.setIfInBounds_toArray, List.set_cons_zero, List.set_cons_succ, List.getElem_toArray, List.getElem_cons_zero, List.getElem_cons_succ]
                    refine wpAnyH_take (i := 2) (v := ?_) rfl (by kernel_rfl) (by kernel_rfl) (by kernel_rfl) (fun _ _ _ h => h) (Or.inl ⟨by rfl, ?_⟩) (by assumption) ?_
                    rotate_left
                    · intro w hSw; (try dsimp only at hSw); go_simp; try with_reducible rfl
                    try simp only [Act.put, List.setIfInBounds_toArray, List.set_cons_zero, List.set_cons_succ, List.getElem_toArray, List.getElem_cons_zero, List.getElem_cons_succ]
                    refine wpAnyH_take (i := 3) (v := ?_) rfl (by kernel_rfl) (by kernel_rfl) (by kernel_rfl) (fun _ _ _ h => h) (Or.inl ⟨by rfl, ?_⟩) (by assumption) ?_
                    rotate_left
                    · intro w hSw; (try dsimp only at hSw); go_simp; try with_reducible rfl
                    try simp only [Act.put, List.setIfInBounds_toArray, List.set_cons_zero, List.set_cons_succ, List.getElem_toArray, List.getElem_cons_zero, List.getElem_cons_succ]
                    refine wpAnyH_take (i := 4) (v := ?_) rfl (by kernel_rfl) (by kernel_rfl) (by kernel_rfl) (fun _ _ _ h => h) (Or.inl ⟨by rfl, ?_⟩) (by assumption) ?_
                    rotate_left
                    · intro w hSw; (try dsimp only at hSw); go_simp; try with_reducible rfl
                    try simp only [Act.put, List.setIfInBounds_toArray, List.set_cons_zero, List.set_cons_succ, List.getElem_toArray, List.getElem_cons_zero, List.getElem_cons_succ]
                    refine wpAnyH_take (i := 7) (v := ?_) rfl (by kernel_rfl) (by kernel_rfl) (by kernel_rfl) (fun _ _ _ h => h) (Or.inl ⟨by rfl, ?_⟩) (by assumption) ?_
                    rotate_left
                    · intro w hSw; (try dsimp only at hSw); go_simp; try with_reducible rfl
                    try simp only [Act.put, List.setIfInBounds_toArray, List.set_cons_zero, List.set_cons_succ, List.getElem_toArray, List.getElem_cons_zero, List.getElem_cons_succ]
                    refine wpAnyH_take (i := 8) (v := ?_) rfl (by kernel_rfl) (by kernel_rfl) (by kernel_rfl) (fun _ _ _ h => h) (Or.inl ⟨by rfl, ?_⟩) (by assumption) ?_
                    rotate_left
                    · intro w hSw; (try dsimp only at hSw); go_simp; try with_reducible rfl
                    try simp only [Act.put, List.setIfInBounds_toArray, List.set_cons_zero, List.set_cons_succ, List.getElem_toArray, List.getElem_cons_zero, List.getElem_cons_succ]
                    refine wpAnyH_take (i := 9) (v := ?_) rfl (by kernel_rfl) (by kernel_rfl) (by kernel_rfl) (fun _ _ _ h => h) (Or.inl ⟨by rfl, ?_⟩) (by assumption) ?_
                    rotate_left
                    · intro w hSw; (try dsimp only at hSw); go_simp; try with_reducible rfl
                    try simp only [Act.put, List.setIfInBounds_toArray, List.set_cons_zero, List.set_cons_succ, List.getElem_toArray, List.getElem_cons_zero, List.getElem_cons_succ]
                    refine wpAnyH_ready (rs := [5]) (by kernel_rfl) (by simp) ?_
                    refine AllReadyH.cons rfl (fun K hK => ?_) AllReadyH.nil
                    go_simp
                    refine (hl5' _ (by first | exact Keep.refl _ _ | exact Keep.drew _ _ | exact drewN_keep _ _ _)).mono ?_
                    rintro e wM ⟨v, rfl, ho, kM⟩
                    obtain ⟨sd, cs, rfl, hcs⟩ := rows_val2 ho
                    have t0 := kM.cell PP.out.1 (fun q => q)
                    have t1 := kM.cell PP.out.2.1 (fun q => q)
                    clear ho
                    refine hK.out _ _ ⟨t0, t1⟩ (fun hHeld => ?_)
                    clear hK K
                    try simp only [Act.put, List.setIfInBounds_toArray, List.set_cons_zero, List.set_cons_succ, List.getElem_toArray, List.getElem_cons_zero, List.getElem_cons_succ]
                    refine wpAnyH_take (i := 6) (v := ?_) rfl (by kernel_rfl) (by kernel_rfl) (by kernel_rfl) (fun _ _ _ h => h) (Or.inl ⟨by rfl, ?_⟩) (by assumption) ?_
                    rotate_left
                    · intro w hSw; (try dsimp only at hSw); go_simp; try with_reducible rfl
                    try simp only [Act.put, List.setIfInBounds_toArray, List.set_cons_zero, List.set_cons_succ, List.getElem_toArray, List.getElem_cons_zero, List.getElem_cons_succ]
                    refine wpAnyH_take (i := 10) (v := ?_) rfl (by kernel_rfl) (by kernel_rfl) (by kernel_rfl) (fun _ _ _ h => h) (Or.inl ⟨by rfl, ?_⟩) (by assumption) ?_
                    rotate_left
                    · intro w hSw; (try dsimp only at hSw); go_simp; try with_reducible rfl
                    try simp only [Act.put, List.setIfInBounds_toArray, List.set_cons_zero, List.set_cons_succ, List.getElem_toArray, List.getElem_cons_zero, List.getElem_cons_succ]
                    refine wpAnyH_take (i := 11) (v := ?_) rfl (by kernel_rfl) (by kernel_rfl) (by kernel_rfl) (fun _ _ _ h => h) (Or.inl ⟨by rfl, ?_⟩) (by assumption) ?_
                    rotate_left
                    · intro w hSw; (try dsimp only at hSw); go_simp; try with_reducible rfl
                    try simp only [Act.put, List.setIfInBounds_toArray, List.set_cons_zero, List.set_cons_succ, List.getElem_toArray, List.getElem_cons_zero, List.getElem_cons_succ]
                    refine wpAnyH_take (i := 12) (v := ?_) rfl (by kernel_rfl) (by kernel_rfl) (by kernel_rfl) (fun _ _ _ h => h) (Or.inl ⟨by rfl, ?_⟩) (by assumption) ?_
                    rotate_left
                    · intro w hSw; (try dsimp only at hSw); go_simp; try with_reducible rfl
                    try simp only [Act.put, List.setIfInBounds_toArray, List.set_cons_zero, List.set_cons_succ, List.getElem_toArray, List.getElem_cons_zero, List.getElem_cons_succ]
                    refine wpAnyH_take (i := 13) (v := ?_) rfl (by kernel_rfl) (by kernel_rfl) (by kernel_rfl) (fun _ _ _ h => h) (Or.inl ⟨by rfl, ?_⟩) (by assumption) ?_
                    rotate_left
                    · intro w hSw; (try dsimp only at hSw); go_simp; try with_reducible rfl
                    try simp only [Act.put, List.setIfInBounds_toArray, List.set_cons_zero, List.set_cons_succ, List.getElem_toArray, List.getElem_cons_zero, List.getElem_cons_succ]
                    refine wpAnyH_take (i := 14) (v := ?_) rfl (by kernel_rfl) (by kernel_rfl) (by kernel_rfl) (fun _ _ _ h => h) (Or.inl ⟨by rfl, ?_⟩) (by assumption) ?_
                    rotate_left
                    · intro w hSw; (try dsimp only at hSw); go_simp; try with_reducible rfl
                    try simp only [Act.put, List.setIfInBounds_toArray, List.set_cons_zero, List.set_cons_succ, List.getElem_toArray, List.getElem_cons_zero, List.getElem_cons_succ]
                    refine wpAnyH_take (i := 16) (v := ?_) rfl (by kernel_rfl) (by kernel_rfl) (by kernel_rfl) (fun _ _ _ h => h) (Or.inl ⟨by rfl, ?_⟩) (by assumption) ?_
                    rotate_left
                    · intro w hSw; (try dsimp only at hSw); go_simp; try with_reducible rfl
                    try simp only [Act.put, List.setIfInBounds_toArray, List.set_cons_zero, List.set_cons_succ, List.getElem_toArray, List.getElem_cons_zero, List.getElem_cons_succ]
                    refine wpAnyH_ready (rs := [15]) (by kernel_rfl) (by simp) ?_
                    refine AllReadyH.cons rfl (fun K hK => ?_) AllReadyH.nil
                    go_simp
                    refine (hdw _ kM).mono ?_
                    rintro e wN ⟨rfl, kN⟩
                    have t0 := kN.cell PP.out.1 (fun q => q)
                    have t1 := kN.cell PP.out.2.1 (fun q => q)
                    refine hK.out _ _ ⟨t0, t1⟩ (fun hHeld => ?_)
                    clear hK K
                    try simp only [Act.put, List.setIfInBounds_toArray, List.set_cons_zero, List.set_cons_succ, List.getElem_toArray, List.getElem_cons_zero, List.getElem_cons_succ]
                    refine wpAnyH_take (i := 17) (v := ?_) rfl (by kernel_rfl) (by kernel_rfl) (by kernel_rfl) (fun _ _ _ h => h) (Or.inl ⟨by rfl, ?_⟩) (by assumption) ?_
                    rotate_left
                    · intro w hSw; (try dsimp only at hSw); go_simp; try with_reducible rfl
                    try simp only [Act.put, List.setIfInBounds_toArray, List.set_cons_zero, List.set_cons_succ, List.getElem_toArray, List.getElem_cons_zero, List.getElem_cons_succ]
                    refine wpAnyH_take (i := 18) (v := ?_) rfl (by kernel_rfl) (by kernel_rfl) (by kernel_rfl) (fun _ _ _ h => h) (Or.inl ⟨by rfl, ?_⟩) (by assumption) ?_
                    rotate_left
                    · intro w hSw; (try dsimp only at hSw); go_simp; try with_reducible rfl
                    try simp only [Act.put, List.setIfInBounds_toArray, List.set_cons_zero, List.set_cons_succ, List.getElem_toArray, List.getElem_cons_zero, List.getElem_cons_succ]
                    refine wpAnyH_take (i := 19) (v := undef) rfl (by kernel_rfl) (by kernel_rfl) (by kernel_rfl) (fun _ _ _ h => h) (Or.inr ⟨by rfl, rfl⟩) (by assumption) ?_
                    try simp only [Act.put, List.setIfInBounds_toArray, List.set_cons_zero, List.set_cons_succ, List.getElem_toArray, List.getElem_cons_zero, List.getElem_cons_succ]
                    refine wpAnyH_take (i := 20) (v := undef) rfl (by kernel_rfl) (by kernel_rfl) (by kernel_rfl) (fun _ _ _ h => h) (Or.inr ⟨by rfl, rfl⟩) (by assumption) ?_
                    try simp only [Act.put, List.setIfInBounds_toArray, List.set_cons_zero, List.set_cons_succ, List.getElem_toArray, List.getElem_cons_zero, List.getElem_cons_succ]
                    refine wpAnyH_take (i := 21) (v := undef) rfl (by kernel_rfl) (by kernel_rfl) (by kernel_rfl) (fun _ _ _ h => h) (Or.inr ⟨by rfl, rfl⟩) (by assumption) ?_
                    try simp only [Act.put, List.setIfInBounds_toArray, List.set_cons_zero, List.set_cons_succ, List.getElem_toArray, List.getElem_cons_zero, List.getElem_cons_succ]
                    refine wpAnyH_take (i := 22) (v := undef) rfl (by kernel_rfl) (by kernel_rfl) (by kernel_rfl) (fun _ _ _ h => h) (Or.inr ⟨by rfl, rfl⟩) (by assumption) ?_
                    try simp only [Act.put, List.setIfInBounds_toArray, List.set_cons_zero, List.set_cons_succ, List.getElem_toArray, List.getElem_cons_zero, List.getElem_cons_succ]
                    refine wpAnyH_take (i := 23) (v := undef) rfl (by kernel_rfl) (by kernel_rfl) (by kernel_rfl) (fun _ _ _ h => h) (Or.inr ⟨by rfl, rfl⟩) (by assumption) ?_
                    try simp only [Act.put, List.setIfInBounds_toArray, List.set_cons_zero, List.set_cons_succ, List.getElem_toArray, List.getElem_cons_zero, List.getElem_cons_succ]
                    refine wpAnyH_take (i := 24) (v := undef) rfl (by kernel_rfl) (by kernel_rfl) (by kernel_rfl) (fun _ _ _ h => h) (Or.inr ⟨by rfl, rfl⟩) (by assumption) ?_
                    try simp only [Act.put, List.setIfInBounds_toArray, List.set_cons_zero, List.set_cons_succ, List.getElem_toArray, List.getElem_cons_zero, List.getElem_cons_succ]
                    refine wpAnyH_take (i := 25) (v := undef) rfl (by kernel_rfl) (by kernel_rfl) (by kernel_rfl) (fun _ _ _ h => h) (Or.inr ⟨by rfl, rfl⟩) (by assumption) ?_
                    try simp only [Act.put, List.setIfInBounds_toArray, List.set_cons_zero, List.set_cons_succ, List.getElem_toArray, List.getElem_cons_zero, List.getElem_cons_succ]
                    refine wpAnyH_take (i := 26) (v := undef) rfl (by kernel_rfl) (by kernel_rfl) (by kernel_rfl) (fun _ _ _ h => h) (Or.inr ⟨by rfl, rfl⟩) (by assumption) ?_
                    try simp only [Act.put, List.setIfInBounds_toArray, List.set_cons_zero, List.set_cons_succ, List.getElem_toArray, List.getElem_cons_zero, List.getElem_cons_succ]
                    refine wpAnyH_take (i := 27) (v := ?_) rfl (by kernel_rfl) (by kernel_rfl) (by kernel_rfl) (fun _ _ _ h => h) (Or.inl ⟨by rfl, ?_⟩) (by assumption) ?_
                    rotate_left
                    · intro w hSw; (try dsimp only at hSw); go_simp; try with_reducible rfl
                    try simp only [Act.put, List.setIfInBounds_toArray, List.set_cons_zero, List.set_cons_succ, List.getElem_toArray, List.getElem_cons_zero, List.getElem_cons_succ]
                    refine wpAnyH_take (i := 28) (v := ?_) rfl (by kernel_rfl) (by kernel_rfl) (by kernel_rfl) (fun _ _ _ h => h) (Or.inl ⟨by rfl, ?_⟩) (by assumption) ?_
                    rotate_left
                    · intro w hSw; (try dsimp only at hSw); go_simp; try with_reducible rfl
                    try simp only [Act.put, List.setIfInBounds_toArray, List.set_cons_zero, List.set_cons_succ, List.getElem_toArray, List.getElem_cons_zero, List.getElem_cons_succ]
                    refine wpAnyH_done (by kernel_rfl) ?_ _
                    all_goals go_wp2
                    all_goals go_meet
                    all_goals exact ⟨rfl, kN⟩
                  case rest =>
                    obtain ⟨rfl, kE⟩ := hcut
                    have UE := Lib.hid (U5.out.step kE)
                    clear kE hl5' hdw p0 p1 p2
                    go_wp2
                    go_roundg (40 - (j + 1))
                    case measure => omega
                    case rel => exact ⟨j + 1, S5, V6, by omega, rfl, by rw [hmq2.out.2.1], by go_num, UE.out, by have := hmq2.out; omega, by have := hmq2.out; omega, by have := hmq2.out; omega⟩
        · have g3 : (j : Int) < (len : Int) := by omega
          have g4 : ¬ (j : Int) < 40 := by omega
          go_wp2
          go_meet
          case rel => exact ⟨S, V, B.out⟩
      · have g3 : ¬ (j : Int) < (len : Int) := by omega
        go_wp2
        go_meet
        case rel => exact ⟨S, V, B.out⟩
  case rest =>
    obtain ⟨S, V, hU⟩ := hcut
    have hl := mlist_c hU.tab
    have hmost : V.list.length ≤ 8 := by unfold MountV.list; rw [List.length_map]; exact hU.tab.ok.most
    have hsum := MountV.sum_above hU.tab.ok
    have U := Lib.hid hU
    clear hU C1
    obtain ⟨n, hn⟩ : ∃ n, V.list.length = n := ⟨_, rfl⟩
    rw [hn] at hl hmost hsum
    have hn2 := Lib.hid hn
    have hs2 := Lib.hid hsum
    clear hn hsum
    go_upto_block 2 with (
      go_at_call 33
      refine hl.mono ?_
      rintro e w6 ⟨v, rfl, ho, k6, hv⟩
      obtain ⟨sa, cp, rfl, hcp⟩ := rows_val2 ho
      have L6 := Lib.hid (ListIn.of_own ho)
      have U6 := Lib.hid (U.out.step k6)
      clear ho k6 hv hl)
    go_wp2_with fail
    go_loopg [15, 17] n (fun g s15 s17 wr => ∃ j : Nat, j + g = n ∧ s15 = .int .i64 (((V.list.take j).map fun k => (V.above k).length).sum : Nat) ∧ s17 = .int .i64 j ∧ MCur w wr tb S V ∧ Keep w6 wr (fun _ => False))
    case atStart => exact ⟨0, by omega, rfl, rfl, U6.out, Keep.refl _ _⟩
    case round =>
      obtain ⟨j, hjg, rfl, rfl, hB, hk⟩ := hrel
      have UJ := Lib.hid (And.intro hB hk)
      have HJ := Lib.hid hjg
      have hb := sum_take_le V (V.list.take j)
      rw [hn2.out, List.length_take, hn2.out] at hb
      have hb2 : min j n * n ≤ 8 * 8 := Nat.mul_le_mul (by omega) hmost
      obtain ⟨sm, hsm⟩ : ∃ sm, ((V.list.take j).map fun k => (V.above k).length).sum = sm := ⟨_, rfl⟩
      rw [hsm] at hb ⊢
      have HS := Lib.hid hsm
      clear hB hk hjg hsm
      have hsm64 : sm ≤ 64 := by omega
      clear hb hb2
      obtain ⟨wo, rfl⟩ : ∃ wo : World, wo = wr := ⟨_, rfl⟩
      by_cases hlt : j < n
      · have g81 : (j : Int) < (n : Int) := by omega
        have g82 : (0 : Int) ≤ (j : Int) := by omega
        obtain ⟨b1, o1, hsa, hb1, f1⟩ := L6.out.some (by rw [List.length_map, hn2.out]; omega)
        cases hsa
        obtain ⟨x, hx⟩ : ∃ x, V.list[j]? = some x := ⟨_, List.getElem?_eq_getElem (by rw [hn2.out]; exact hlt)⟩
        have c1 : wo.cell? ⟨b1, o1 + j, none⟩ = some (.int .i64 x) := UJ.out.2.cell (f1 j _ (mapGet hx)) (fun q => q)
        have hab := mabv_c UJ.out.1.tab x
        have hal := V.above_le x
        obtain ⟨na, hna⟩ : ∃ na, (V.above x).length = na := ⟨_, rfl⟩
        rw [hna] at hab hal
        rw [hn2.out] at hal
        have HX := Lib.hid (And.intro hx hna)
        clear f1 hx hna
        go_wp2_with (
          go_at_call 39
          refine hab.mono ?_
          rintro e w7 ⟨v, rfl, ho, k7, hv⟩
          obtain ⟨sb, cq, rfl, hcq⟩ := rows_val2 ho
          have U7 := Lib.hid (And.intro (UJ.out.1.step k7) (UJ.out.2.aside k7))
          clear ho k7 hv hab)
        go_roundg (n - (j + 1))
        case measure => have := HJ.out; omega
        case rel =>
          refine ⟨j + 1, by have := HJ.out; omega, ?_, by go_num, U7.out.1, U7.out.2⟩
          rw [List.take_add_one, HX.out.1]
          simp only [Option.toList_some, List.map_append, List.map_cons, List.map_nil, List.sum_append, List.sum_cons, List.sum_nil, HS.out, HX.out.2]
          go_num
      · have g81 : ¬ (j : Int) < (n : Int) := by omega
        have hjn : j = n := by have := HJ.out; omega
        have hfin : sm + 1 = n := by
          have h1 := HS.out
          rw [hjn, List.take_of_length_le (by rw [hn2.out]; exact Nat.le_refl _)] at h1
          have := hs2.out
          omega
        have g169 : ((sm : Int) == (n : Int) - 1) = true := by simp; omega
        have g173 : (n : Int) ≤ 8 := by omega
        clear hjn hfin
        go_wp2_with (
          go_at_call 35
          refine (mknown_c _).mono ?_
          rintro e w9 ⟨rfl, hk9⟩
          have M9 := Lib.hid (UJ.out.1.step hk9)
          clear hk9)
        go_ret
        exact ⟨rfl, M9.out.below⟩

end Go.Proofs.Ytemoickagefjmaa
