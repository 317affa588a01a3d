/-
  The document's mounts: Down, Unbind, Bind.
-/
import Derived.Test.YtemoickagefjmaaRM3
namespace Go.Proofs.Ytemoickagefjmaa
open Go Go.RowKit Go.Shelf
set_option linter.unusedSectionVars false
set_option linter.unusedSimpArgs false
set_option linter.unusedVariables false
set_option maxRecDepth 100000
attribute [local go_sem] Oper.semAt_some

theorem rmdown_res {W : World} {b : Nat} {m n : Int} {T : Array Value} (z : W.heap[b]? = some (.cells #[.int .i64 m, .int .i64 n] 49 (0, 0))) (h4 : T.getD 4 undef = .pointer (some ⟨b, 0, none⟩)) :
    (results Try.f47 T).run Try.prog W = .ok (.agg #[.int .i64 m, .int .i64 n]) W := by
  have y0 : W.cell? ⟨b, 0, none⟩ = some (.int .i64 m) := by rw [cell_blk z]; rfl
  have y1 : W.cell? ⟨b, 1, none⟩ = some (.int .i64 n) := by rw [cell_blk z]; rfl
  have h4' : T[4]?.getD undef = .pointer (some ⟨b, 0, none⟩) := by simpa using h4
  simp [results, Try.results47, go_sem, h4', y0, y1]

set_option maxHeartbeats 4000000 in
theorem rmdown_c {w : World} {rb : Nat} {R : Nat → Prop} {V : MountV} (h : RTableAt w rb R V) (hm : V.made ≤ 1000000) (m n : Int) :
    Calls Try.prog 47 #[.pointer (some ⟨rb, 0, none⟩), .agg #[.int .i64 m, .int .i64 n]] w fun e w' => e = .returned (.agg #[.int .i64 (V.down m n).1, .int .i64 (V.down m n).2]) ∧ Keep w w' (fun _ => False) := by
  have H := Lib.hid h
  clear h
  go_enter Try.func47, Try.ntmps47
  go_upto_region 1 with (fail)
  obtain ⟨wB, hwB⟩ : ∃ wB, wB = (w.alloc (.cells #[.int .i64 m, .int .i64 n] 49)).alloc (.cells #[.int .i64 0, .int .i64 0] 49) := ⟨_, rfl⟩
  have W0 := boxes2 w (.cells #[.int .i64 m, .int .i64 n] 49) (.cells #[.int .i64 0, .int .i64 0] 49)
  rw [← hwB] at W0
  rw [← hwB]
  have HB := Lib.hid W0
  have hi := ris_c (H.out.aside W0.1) hm m
  have p0 : wB.cell? ⟨w.heap.size, 0, none⟩ = some (.int .i64 m) := by rw [cell_blk W0.2.1]; rfl
  have p1 : wB.cell? ⟨w.heap.size, 1, none⟩ = some (.int .i64 n) := by rw [cell_blk W0.2.1]; rfl
  have r0 : wB.cell? ⟨w.heap.size + 1, 0, none⟩ = some (.int .i64 0) := by rw [cell_blk W0.2.2.1]; rfl
  have r1 : wB.cell? ⟨w.heap.size + 1, 1, none⟩ = some (.int .i64 0) := by rw [cell_blk W0.2.2.1]; rfl
  have f0 := free_blk W0.2.2.1 0
  have f1 := free_blk W0.2.2.1 1
  clear hwB W0
  cases hg : aget V.live m with
  | none =>
    rw [hg] at hi
    simp only [Option.isSome_none] at hi
    have HD := Lib.hid (MountV.down_none (over_dead H.out.ok hg n))
    clear hg
    go_wp2_with (
      go_at_call 59
      refine hi.mono ?_
      rintro e w2 ⟨rfl, hw⟩
      subst hw
      clear hi)
    have s1 := heap_setCell_eq (off := 0) (Value.int .i64 m) HB.out.2.2.1
    have s2 := heap_setCell_eq (off := 1) (Value.int .i64 n) s1
    refine bodyPost_ret (rmdown_res (by simpa using s2) rfl) rfl ⟨by rw [HD.out], ?_⟩
    exact ((HB.out.1.setNew _ _ (by simp)).setNew _ _ (by simp))
  | some x0 =>
    rw [hg] at hi
    simp only [Option.isSome_some] at hi
    clear hg r0 r1 f0 f1
    go_upto_block 0 with (
      go_at_call 59
      refine hi.mono ?_
      rintro e w2 ⟨rfl, hw⟩
      subst hw
      clear hi)
    go_wp2_with fail
    go_loopg [] (V.rank m) (fun g wr => ∃ m' n', V.down m' n' = V.down m n ∧ g = V.rank m' ∧ Keep w wr (fun _ => False) ∧ wr.heap[w.heap.size]? = some (.cells #[.int .i64 m', .int .i64 n'] 49 (0, 0)) ∧ wr.heap[w.heap.size + 1]? = some (.cells #[.int .i64 0, .int .i64 0] 49 (0, 0)))
    case atStart => exact ⟨m, n, rfl, rfl, HB.out.1, HB.out.2.1, HB.out.2.2.1⟩
    case round =>
      obtain ⟨m', n', hd, hg, kr, b1, b2⟩ := hrel
      have q0 := cell_blk b1 0
      have q1 := cell_blk b1 1
      simp only [List.getElem?_toArray, List.getElem?_cons_zero, List.getElem?_cons_succ] at q0 q1
      have hov := rmover_c (H.out.aside kr) hm m' n'
      have D := Lib.hid (And.intro hd (And.intro hg (And.intro kr (And.intro b1 b2))))
      clear hd hg kr b1 b2 p0 p1
      obtain ⟨wo, rfl⟩ : ∃ wo : World, wo = wr := ⟨_, rfl⟩
      cases ho : V.over m' n' with
      | none =>
        have he : overI V m' n' = -1 := by unfold overI; rw [ho]
        rw [he] at hov
        have HO := Lib.hid ho
        clear ho he
        go_wp2_with (
          go_at_call 60
          refine hov.mono ?_
          rintro e w2 ⟨rfl, hk2⟩
          have b1 := hk2.get D.out.2.2.2.1 (fun q => q)
          have b2 := hk2.get D.out.2.2.2.2 (fun q => q)
          have q0' := cell_blk b1 0
          have q1' := cell_blk b1 1
          have r0' := cell_blk b2 0
          have r1' := cell_blk b2 1
          have f0 := free_blk b2 0
          have f1 := free_blk b2 1
          simp only [List.getElem?_toArray, List.getElem?_cons_zero, List.getElem?_cons_succ] at q0' q1' r0' r1'
          have N := Lib.hid (And.intro hk2 (And.intro b1 b2))
          clear hk2 b1 b2 hov)
        have s1 := heap_setCell_eq (off := 0) (Value.int .i64 m') N.out.2.2
        have s2 := heap_setCell_eq (off := 1) (Value.int .i64 n') s1
        have hdn := MountV.down_none HO.out
        have hd := D.out.1
        rw [hdn] at hd
        refine bodyPost_ret (rmdown_res (by simpa using s2) rfl) rfl ⟨by rw [← hd], ?_⟩
        exact (((D.out.2.2.1.aside N.out.1).setNew _ _ (by simp)).setNew _ _ (by simp))
      | some x =>
        have he : overI V m' n' = x.1 := by unfold overI; rw [ho]
        rw [he] at hov
        have hx := MountV.over_mem ho
        have hgx : aget V.live x.1 = some x.2 := aget_of_memM H.out.ok.nodup hx.1
        obtain ⟨j, g, ln, cap, hj, hjl, hln, hb, z0, z1, z2, z3, z4, hgl⟩ := rt_row (H.out.aside D.out.2.2.1) hgx
        have HO := Lib.hid (And.intro ho (And.intro hj (And.intro hb z2)))
        rw [hj] at hov
        have g1 : (0 : Int) ≤ (j : Int) := by omega
        have g2 : (j : Int) < (ln : Int) := by omega
        have g3 : ¬ (j : Int) < 0 := by omega
        clear ho he hx hgx hj hb z0 z1 z2 z3 z4 hln hgl
        go_wp2_with (
          go_at_call 60
          refine hov.mono ?_
          rintro e w2 ⟨rfl, hk2⟩
          have b1 := hk2.get D.out.2.2.2.1 (fun q => q)
          have b2 := hk2.get D.out.2.2.2.2 (fun q => q)
          have q0' := cell_blk b1 0
          have q1' := cell_blk b1 1
          have f0 := free_blk b1 0
          have f1 := free_blk b1 1
          simp only [List.getElem?_toArray, List.getElem?_cons_zero, List.getElem?_cons_succ] at q0' q1'
          have c0 : w2.cell? ⟨rb, 0, none⟩ = some (.slice (some ⟨g, 0, none⟩) ln cap) := by rw [cell_blk (hk2.get HO.out.2.2.1 (fun q => q))]; rfl
          have c2 := hk2.cell HO.out.2.2.2 (fun q => q)
          have N := Lib.hid (And.intro hk2 (And.intro b1 b2))
          clear hk2 b1 b2 hov)
        have s1 := heap_setCell_eq (off := 0) (Value.int .i64 (j : Int)) N.out.2.1
        have s2 := heap_setCell_eq (off := 1) (Value.int .i64 x.2.top) s1
        have kk : Keep w2 ((w2.setCell ⟨w.heap.size, 0, none⟩ (.int .i64 (j : Int))).setCell ⟨w.heap.size, 1, none⟩ (.int .i64 x.2.top)) (fun b => b = w.heap.size) := (Keep.setCell _ _ _).trans (Keep.setCell _ _ _) (fun b q => .inl q)
        have HK := Lib.hid (And.intro s2 kk)
        clear s1 s2 kk
        go_roundg (V.rank x.1)
        case measure => have h1 := MountV.rank_lt H.out.ok HO.out.1; have h2 := D.out.2.1; omega
        case rel =>
          refine ⟨x.1, x.2.top, ?_, rfl, ((D.out.2.2.1.aside N.out.1).setNew _ _ (by simp)).setNew _ _ (by simp), ?_, HK.out.2.get N.out.2.2 (fun q => by have q' : w.heap.size + 1 = w.heap.size := q; omega)⟩
          · rw [← MountV.down_some H.out.ok HO.out.1]
            exact D.out.1
          · rw [HO.out.2.1]
            simpa using HK.out.1

set_option maxHeartbeats 4000000 in
theorem rmunbind_c {w : World} {rb : Nat} {R : Nat → Prop} {V : MountV} (h : RTableAt w rb R V) (hm : V.made ≤ 1000000) (m : Int) :
    Calls Try.prog 44 #[.pointer (some ⟨rb, 0, none⟩), .int .i64 m] w fun e w' => e = .returned (.int .i64 (V.unbind m).2) ∧ ∃ R', RTableAt w' rb R' (V.unbind m).1 ∧ TurnM w R w' R' := by
  have hi := ris_c h hm m
  have hok := h.ok.unbind m
  have same : ∀ w', Keep w w' (fun _ => False) → ∃ R', RTableAt w' rb R' V ∧ TurnM w R w' R' := fun w' k => ⟨R, h.aside k, k.mono (fun _ q => q.elim), fun b q => .inl q⟩
  have HS := Lib.hid same
  have H := Lib.hid h
  have hab := rmabv_c h hm m
  obtain ⟨U, re, hU⟩ : ∃ U re, V.unbind m = (U, re) := ⟨_, _, rfl⟩
  rw [hU] at hok ⊢
  simp only at hok ⊢
  have HU := Lib.hid (And.intro hU hok)
  have fin : ∀ (re' : Int) w', Hid (V.unbind m = (V, re')) → Keep w w' (fun _ => False) → Ending.returned (.int .i64 re') = Ending.returned (.int .i64 re) ∧ ∃ R', RTableAt w' rb R' U ∧ TurnM w R w' R' := fun re' w' hbd k => by
    have e := HU.out.1.symm.trans hbd.out
    simp only [Prod.mk.injEq] at e
    obtain ⟨rfl, rfl⟩ := e
    exact ⟨rfl, HS.out w' k⟩
  have HF := Lib.hid fin
  clear fin same h hU hok
  by_cases h0 : m = 0
  · have g0 : (m == 0) = true := by simpa using h0
    have HBD := Lib.hid (show V.unbind m = (V, 1) by unfold MountV.unbind; rw [if_pos (.inr h0)])
    clear h0 hi hab
    go_enter Try.func44, Try.ntmps44
    go_wp2
    go_ret
    exact HF.out 1 _ HBD (Keep.refl _ _)
  · have g0 : (m == 0) = false := by simpa using h0
    cases hg : aget V.live m with
    | none =>
      have HBD := Lib.hid (show V.unbind m = (V, 1) by unfold MountV.unbind; rw [if_pos (.inl hg)])
      rw [hg] at hi
      simp only [Option.isSome_none] at hi
      clear h0 hg hab
      go_enter Try.func44, Try.ntmps44
      go_wp2_with (
        go_at_call 59
        refine hi.mono ?_
        rintro e w2 ⟨rfl, hw⟩
        obtain rfl : w = w2 := hw.symm
        clear hi)
      go_ret
      exact HF.out 1 _ HBD (Keep.refl _ _)
    | some x =>
      rw [hg] at hi
      simp only [Option.isSome_some] at hi
      have hno : ¬ (aget V.live m = none ∨ m = 0) := by rw [hg]; simp [h0]
      obtain ⟨q, hq⟩ : ∃ q, ((V.above m).map (Value.int .i64)).length = q := ⟨_, rfl⟩
      have hq8 : q ≤ 8 := by rw [← hq, List.length_map]; exact Nat.le_trans (abv_len m V.live) H.out.ok.most
      by_cases h1 : V.above m = []
      · have HBD := Lib.hid (show V.unbind m = (⟨V.made, V.turns + 1, adel V.live m⟩, 0) by unfold MountV.unbind; rw [if_neg hno, if_neg (by simp [h1])])
        have hq0 : q = 0 := by rw [← hq, h1]; rfl
        subst hq0
        obtain ⟨v, rows, t1, t2, t3, t4, t5, t6⟩ := H.out.ex
        have hin : 0 ≤ m ∧ m < (rows.length : Int) := by
          by_cases q : m < 0 ∨ (rows.length : Int) ≤ m
          · rw [row_out t6 q] at hg; cases hg
          · omega
        obtain ⟨j, rfl⟩ : ∃ j : Nat, m = j := ⟨m.toNat, by omega⟩
        obtain ⟨r, hr⟩ : ∃ r, rows[j]? = some r := ⟨_, List.getElem?_eq_getElem (by omega)⟩
        obtain ⟨sa, cap, rfl, hc⟩ := rows_val2 t2
        obtain ⟨g, rfl, _, _, hgl⟩ := rows_some t2 (by omega)
        have hlv : r.live = true := by
          have := row_get H.out.ok t6 hr
          rw [hg] at this
          cases hl : r.live with
          | true => rfl
          | false => rw [hl] at this; simp at this
        obtain ⟨g1, g2⟩ := hin
        generalize hn : rows.length = n at *
        have HT := Lib.hid (And.intro t1 (And.intro t2 (And.intro (t3 g rfl) (And.intro t4 (And.intro t5 (And.intro t6 (And.intro hr (And.intro hlv hn))))))))
        clear h0 hg hno h1 t1 t2 t3 t4 t5 t6 hr hlv hn
        go_enter Try.func44, Try.ntmps44
        go_wp2_with (first
          | (go_at_call 59
             refine hi.mono ?_
             rintro e w2 ⟨rfl, hw⟩
             obtain rfl : w = w2 := hw.symm
             clear hi)
          | (go_at_call 50
             refine hab.mono ?_
             rintro e w3 ⟨v, rfl, hM⟩
             obtain ⟨a3, cap3, rfl⟩ := hM.valn hq
             have kM := hM.keep
             have b3 := kM.get HT.out.1 (fun q => q)
             have c0 : w3.cell? ⟨rb, 0, none⟩ = some (.slice (some ⟨g, 0, none⟩) n cap) := by rw [cell_blk b3]; rfl
             have rw3 := rows_keep HT.out.2.1 kM (fun _ _ q => q)
             have ce := rows_cell rw3 (j := j * 4 + 3) (u := .bool r.live) (by rw [flat_get rowC 4 rowC_len HT.out.2.2.2.2.2.2.1 (by omega)]; rfl)
             have c3 := ce.1
             have f3 := ce.2
             have N := Lib.hid (And.intro kM (And.intro b3 rw3))
             clear hab hM kM b3 rw3 ce))
        go_ret
        have e := HU.out.1.symm.trans HBD.out
        simp only [Prod.mk.injEq] at e
        obtain ⟨rfl, rfl⟩ := e
        have ks := Keep.setCell w3 ⟨g, j * 4 + 3, none⟩ (.bool false)
        have hset := rows_set N.out.2.2 (j * 4 + 3) (.bool false)
        rw [flat_set rowC 4 rowC_len HT.out.2.2.2.2.2.2.1 (by omega) (y := { r with live := false }) rfl] at hset
        have kk : Keep w (w3.setCell ⟨g, j * 4 + 3, none⟩ (.bool false)) (fun b => b = g) := (N.out.1.mono (fun _ q => q.elim)).trans ks (fun b q => .inl q)
        refine ⟨rfl, R, ⟨HU.out.2, ⟨.slice (some ⟨g, 0, none⟩) n cap, rows.set j { r with live := false }, ks.get N.out.2.1 (fun q => HT.out.2.2.1.2 (show rb = g from q).symm), by rw [List.length_set, HT.out.2.2.2.2.2.2.2.2]; first | done | exact hset, fun b q => ?_, HT.out.2.2.2.1, by rw [List.length_set, HT.out.2.2.2.2.2.2.2.2]; first | done | exact HT.out.2.2.2.2.1, ?_⟩, fun b q => Nat.lt_of_lt_of_le (H.out.lt b q) kk.size⟩, kk.mono (fun b q => by rw [q]; exact HT.out.2.2.1.1), fun b q => .inl q⟩
        · have e : g = b := by simpa [Value.ownBlock] using q
          rw [← e]; exact HT.out.2.2.1
        · show adel V.live (j : Int) = _
          rw [HT.out.2.2.2.2.2.1]
          have := liveF_adel rows 0 j r HT.out.2.2.2.2.2.2.1 HT.out.2.2.2.2.2.2.2.1
          rw [Nat.zero_add] at this
          exact this
      · have HBD := Lib.hid (show V.unbind m = (V, 15) by unfold MountV.unbind; rw [if_neg hno, if_pos h1])
        have hqp : 0 < q := by rw [← hq, List.length_map]; exact List.length_pos_iff.2 h1
        have g3 : (0 : Int) < (q : Int) := by omega
        clear h0 hg hno h1
        go_enter Try.func44, Try.ntmps44
        go_wp2_with (first
          | (go_at_call 59
             refine hi.mono ?_
             rintro e w2 ⟨rfl, hw⟩
             obtain rfl : w = w2 := hw.symm
             clear hi)
          | (go_at_call 50
             refine hab.mono ?_
             rintro e w3 ⟨v, rfl, hM⟩
             obtain ⟨a3, cap3, rfl⟩ := hM.valn hq
             have M := Lib.hid hM.keep
             clear hab hM))
        go_ret
        exact HF.out 15 _ HBD M.out

end Go.Proofs.Ytemoickagefjmaa
