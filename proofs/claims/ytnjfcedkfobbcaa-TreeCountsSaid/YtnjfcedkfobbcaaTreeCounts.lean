/-
  TreeCounts: the walk.
-/
import Derived.Test.YtnjfcedkfobbcaaTreeCnt0
import Derived.Laws.Cover1
namespace Go.Proofs.Ytnjfcedkfobbcaa
open Go Go.RowKit Go.Shelf
set_option linter.unusedSectionVars false
set_option linter.unusedSimpArgs false
set_option linter.unusedVariables false
set_option maxRecDepth 100000

set_option maxHeartbeats 12000000 in
theorem counts_walk (a : Option Addr) (len cap : Nat) (w : World) (h : StructsIs asksT w a len cap) :
    Calls Try.prog 6 #[.slice a len cap] w fun r w' => r = .returned (.bool true) ∧ Below w.heap.size w w' := by
  have h0 := newt_c (Keep.refl w _) 24 4 ⟨by decide, by decide⟩ ⟨by decide, by decide⟩
  have hcap := h.cap
  have hl1 : len ≤ 9223372036854775807 := by unfold maxLen at hcap; omega
  have HP := Lib.hid h
  clear hcap h
  go_enter Try.func6, Try.ntmps6
  go_wp2_with (
    go_at_call 9
    refine h0.mono ?_
    rintro e w1 ⟨tb, s0, rfl, c0, -⟩
    have C0 := Lib.hid (And.intro c0 (PlainT.new 24 4))
    clear h0 c0)
  go_loopg [5] 50 (fun g s5 wr => ∃ (i : Nat) (s : TShape) (T : TreeV), s5 = .int .i64 i ∧ i + g = 50 ∧ PlainT T ∧ TCur w wr tb s T 4 (1 + 3 * i))
  case atStart => exact ⟨0, s0, _, rfl, rfl, C0.out.2, C0.out.1⟩
  case round =>
    obtain ⟨i, s, T, rfl, hig, hpl, hc⟩ := hrel
    have C := Lib.hid (And.intro hc hpl)
    clear hc hpl
    by_cases h50 : (i : Int) < 50
    · by_cases hlt : i < len
      · have hlt' : (i : Int) < (len : Int) := by omega
        have hk9 : (1 + 3 * (i : Int)) ≤ 900000 := by omega
        obtain ⟨b1, o1, rfl, hb1, f1⟩ := asksT_at HP.out (by omega)
        obtain ⟨x, hx, -⟩ := f1 i hlt
        obtain ⟨y0, y1, y2, y3, y4, y5, y6, y7, y8, y9, y10, y11, y12, y13⟩ := hx.keep C.out.1.keep (fun q => q)
        have htm := fun w' => tame_c w' x
        simp only [askC] at htm
        clear f1 hx hb1
        by_cases q1 : x.kind = 1
        · as_aux_lemma =>
          have e1 : (x.kind == 1) = true := by simpa using q1
          clear q1
          go_wp2_with (first
            | (go_at_call 10
               refine (htm _).mono ?_
               rintro e w2 ⟨d, t, sk, ak, kk, rfl, hd, ht, hsk, hak, hkk, k2⟩
               have kz := Keep.alloc w2 (.cells (askC { x with dir := d, to_ := t, s := sk, as_ := ak, st := { x.st with kind := kk } }) 31) (fun _ => False)
               have C2 := Lib.hid (((C.out.1.step k2).step kz).more (k' := 1 + 3 * (i : Int)) (Int.le_refl _))
               obtain ⟨z0, z1, z2, -, z4, z5, z6, z7, z8, z9, z10, z11, z12, -⟩ := askAt_blk (heap_alloc_eq w2 (.cells (askC { x with dir := d, to_ := t, s := sk, as_ := ak, st := { x.st with kind := kk } }) 31))
               simp only [askC, Nat.zero_add] at z0 z1 z2 z4 z5 z6 z7 z8 z9 z10 z11 z12 C2
               have HK := Lib.hid (And.intro (show abcK sk from hsk) (show abcK ak from hak))
               have hmk := make_t C2.out hk9 (right_key HK.out.1) d { x.st with kind := kk } ByteArray.empty
               simp only [statC] at hmk
               have HA := Lib.hid (C.out.2.make (r := true) d HK.out.1 kk (maskV x.st.mode) x.st.uid x.st.gid ByteArray.empty)
               clear htm k2 kz hd ht hsk hak hkk y0 y1 y2 y3 y4 y5 y6 y7 y8 y9 y10 y11 y12 y13)
            | (go_at_call 11
               refine (hmk _ (Keep.refl _ _)).mono ?_
               rintro e w3 ⟨rfl, s3, c3, -⟩
               have C3 := Lib.hid c3
               clear hmk c3))
          go_roundg (50 - (i + 1))
          case measure => omega
          case rel => exact ⟨i + 1, s3, _, by go_num, by omega, HA.out, C3.out.more (by omega)⟩
        · have g1 : (x.kind == 1) = false := by simpa using q1
          by_cases q2 : x.kind = 2
          · as_aux_lemma =>
            have e2 : (x.kind == 2) = true := by simpa using q2
            clear q1 q2
            go_wp2_with (first
              | (go_at_call 10
                 refine (htm _).mono ?_
                 rintro e w2 ⟨d, t, sk, ak, kk, rfl, hd, ht, hsk, hak, hkk, k2⟩
                 have kz := Keep.alloc w2 (.cells (askC { x with dir := d, to_ := t, s := sk, as_ := ak, st := { x.st with kind := kk } }) 31) (fun _ => False)
                 have C2 := Lib.hid (((C.out.1.step k2).step kz).more (k' := 1 + 3 * (i : Int)) (Int.le_refl _))
                 obtain ⟨z0, z1, z2, -, z4, z5, z6, z7, z8, z9, z10, z11, z12, -⟩ := askAt_blk (heap_alloc_eq w2 (.cells (askC { x with dir := d, to_ := t, s := sk, as_ := ak, st := { x.st with kind := kk } }) 31))
                 simp only [askC, Nat.zero_add] at z0 z1 z2 z4 z5 z6 z7 z8 z9 z10 z11 z12 C2
                 have HK := Lib.hid (And.intro (show abcK sk from hsk) (show abcK ak from hak))
                 have hmk := join_t C2.out hk9 (right_key HK.out.1) d t
                 have HA := Lib.hid (C.out.2.join (r := true) d HK.out.1 t)
                 clear htm k2 kz hd ht hsk hak hkk y0 y1 y2 y3 y4 y5 y6 y7 y8 y9 y10 y11 y12 y13)
              | (go_at_call 24
                 refine (hmk _ (Keep.refl _ _)).mono ?_
                 rintro e w3 ⟨rfl, s3, c3, -⟩
                 have C3 := Lib.hid c3
                 clear hmk c3))
            go_roundg (50 - (i + 1))
            case measure => omega
            case rel => exact ⟨i + 1, s3, _, by go_num, by omega, HA.out, C3.out.more (by omega)⟩
          · have g2 : (x.kind == 2) = false := by simpa using q2
            by_cases q3 : x.kind = 3
            · as_aux_lemma =>
              have e3 : (x.kind == 3) = true := by simpa using q3
              clear q1 q2 q3
              go_wp2_with (first
                | (go_at_call 10
                   refine (htm _).mono ?_
                   rintro e w2 ⟨d, t, sk, ak, kk, rfl, hd, ht, hsk, hak, hkk, k2⟩
                   have kz := Keep.alloc w2 (.cells (askC { x with dir := d, to_ := t, s := sk, as_ := ak, st := { x.st with kind := kk } }) 31) (fun _ => False)
                   have C2 := Lib.hid (((C.out.1.step k2).step kz).more (k' := 1 + 3 * (i : Int)) (Int.le_refl _))
                   obtain ⟨z0, z1, z2, -, z4, z5, z6, z7, z8, z9, z10, z11, z12, -⟩ := askAt_blk (heap_alloc_eq w2 (.cells (askC { x with dir := d, to_ := t, s := sk, as_ := ak, st := { x.st with kind := kk } }) 31))
                   simp only [askC, Nat.zero_add] at z0 z1 z2 z4 z5 z6 z7 z8 z9 z10 z11 z12 C2
                   have HK := Lib.hid (And.intro (show abcK sk from hsk) (show abcK ak from hak))
                   have hmk := part_t C2.out hk9 d sk
                   have HA := Lib.hid (C.out.2.part d sk)
                   clear htm k2 kz hd ht hsk hak hkk y0 y1 y2 y3 y4 y5 y6 y7 y8 y9 y10 y11 y12 y13)
                | (go_at_call 17
                   refine (hmk _ (Keep.refl _ _)).mono ?_
                   rintro e w3 ⟨rfl, s3, c3, -⟩
                   have C3 := Lib.hid c3
                   clear hmk c3))
              go_roundg (50 - (i + 1))
              case measure => omega
              case rel => exact ⟨i + 1, s3, _, by go_num, by omega, HA.out, C3.out.more (by omega)⟩
            · have g3 : (x.kind == 3) = false := by simpa using q3
              by_cases q4 : x.kind = 4
              · as_aux_lemma =>
                have e4 : (x.kind == 4) = true := by simpa using q4
                clear q1 q2 q3 q4
                go_wp2_with (first
                  | (go_at_call 10
                     refine (htm _).mono ?_
                     rintro e w2 ⟨d, t, sk, ak, kk, rfl, hd, ht, hsk, hak, hkk, k2⟩
                     have kz := Keep.alloc w2 (.cells (askC { x with dir := d, to_ := t, s := sk, as_ := ak, st := { x.st with kind := kk } }) 31) (fun _ => False)
                     have C2 := Lib.hid (((C.out.1.step k2).step kz).more (k' := 1 + 3 * (i : Int)) (Int.le_refl _))
                     obtain ⟨z0, z1, z2, -, z4, z5, z6, z7, z8, z9, z10, z11, z12, -⟩ := askAt_blk (heap_alloc_eq w2 (.cells (askC { x with dir := d, to_ := t, s := sk, as_ := ak, st := { x.st with kind := kk } }) 31))
                     simp only [askC, Nat.zero_add] at z0 z1 z2 z4 z5 z6 z7 z8 z9 z10 z11 z12 C2
                     have HK := Lib.hid (And.intro (show abcK sk from hsk) (show abcK ak from hak))
                     have hmk := move_t C2.out hk9 (right_key HK.out.2) d sk t
                     have HA := Lib.hid (C.out.2.move (r := true) d sk t HK.out.2)
                     clear htm k2 kz hd ht hsk hak hkk y0 y1 y2 y3 y4 y5 y6 y7 y8 y9 y10 y11 y12 y13)
                  | (go_at_call 15
                     refine (hmk _ (Keep.refl _ _)).mono ?_
                     rintro e w3 ⟨rfl, s3, c3, -⟩
                     have C3 := Lib.hid c3
                     clear hmk c3))
                go_roundg (50 - (i + 1))
                case measure => omega
                case rel => exact ⟨i + 1, s3, _, by go_num, by omega, HA.out, C3.out.more (by omega)⟩
              · as_aux_lemma =>
                have g4 : (x.kind == 4) = false := by simpa using q4
                clear q1 q2 q3 q4
                go_wp2_with (first
                  | (go_at_call 10
                     refine (htm _).mono ?_
                     rintro e w2 ⟨d, t, sk, ak, kk, rfl, hd, ht, hsk, hak, hkk, k2⟩
                     have kz := Keep.alloc w2 (.cells (askC { x with dir := d, to_ := t, s := sk, as_ := ak, st := { x.st with kind := kk } }) 31) (fun _ => False)
                     have C2 := Lib.hid (((C.out.1.step k2).step kz).more (k' := 1 + 3 * (i : Int)) (Int.le_refl _))
                     obtain ⟨z0, z1, z2, -, z4, z5, z6, z7, z8, z9, z10, z11, z12, -⟩ := askAt_blk (heap_alloc_eq w2 (.cells (askC { x with dir := d, to_ := t, s := sk, as_ := ak, st := { x.st with kind := kk } }) 31))
                     simp only [askC, Nat.zero_add] at z0 z1 z2 z4 z5 z6 z7 z8 z9 z10 z11 z12 C2
                     have HK := Lib.hid (And.intro (show abcK sk from hsk) (show abcK ak from hak))
                     skip
                     clear htm k2 kz hd ht hsk hak hkk y0 y1 y2 y3 y4 y5 y6 y7 y8 y9 y10 y11 y12 y13))
                go_roundg (50 - (i + 1))
                case measure => omega
                case rel => exact ⟨i + 1, s, T, by go_num, by omega, C.out.2, C2.out.more (by omega)⟩
      · have hlt' : ¬ (i : Int) < (len : Int) := by omega
        as_aux_lemma =>
          have hlv := tlive_c C.out.1.tab C.out.1.good.ok
          have HI := Lib.hid (show i ≤ 50 by omega)
          go_upto_region 18 with (
            go_at_call 23
            refine hlv.mono ?_
            rintro e w6 ⟨v6, rfl, r1, r2, r3⟩
            obtain ⟨va, vc, rfl, -⟩ := rows_val2 r1
            have C6 := Lib.hid (And.intro (C.out.1.step r2) (ListIn.of_own r1))
            clear hlv r1 r2 r3)
          go_wp2
          have hl64 : T.live.length ≤ 64 := by have := C.out.1.good.ok.room; unfold TreeV.live; rw [List.length_map]; omega
          generalize hln : T.live.length = ln at *
          have HLN := Lib.hid hln
          clear hln
          go_loopg [8] ln (fun g s8 wz => ∃ j : Nat, s8 = .int .i64 j ∧ j + g = ln ∧ Keep w6 wz (fun _ => False))
          case atStart => exact ⟨0, rfl, by omega, Keep.refl _ _⟩
          case round =>
            obtain ⟨wz, rfl⟩ : ∃ wz : World, wz = wr := ⟨_, rfl⟩
            obtain ⟨j, rfl, hj, hkz⟩ := hrel
            have KZ := Lib.hid hkz
            have CZ := Lib.hid (C6.out.1.step hkz)
            clear hkz
            by_cases hjl : j < ln
            · have hjl' : (j : Int) < (ln : Int) := by omega
              obtain ⟨bv, ov, rfl, hbv, fv⟩ := C6.out.2.some (by rw [List.length_map, HLN.out]; omega)
              obtain ⟨m, hm⟩ : ∃ m, T.live[j]? = some m := ⟨_, List.getElem?_eq_getElem (by rw [HLN.out]; exact hjl)⟩
              have lc6 := fv j _ (mapGet hm)
              have lc := KZ.out.cell lc6 (fun q => q)
              obtain ⟨x, hx⟩ : ∃ x, aget T.all m = some x := by
                cases hq : aget T.all m with
                | some x => exact ⟨x, rfl⟩
                | none => exact absurd (List.mem_of_getElem? hm) (aget_out hq)
              have htl := C.out.1.good.ok.tells C.out.2 hx
              have HLC := Lib.hid lc6
              have HX := Lib.hid (And.intro hx htl)
              clear fv hm hbv lc6
              have hNm := fun w' (K : Keep wz w' (fun _ => False)) => tnames_c (CZ.out.step K).tab ((CZ.out.step K).small.mono (by have := HI.out; omega)) m
              have gmm : (m != m) = false := by simp
              by_cases hk1 : x.kind = 1
              · as_aux_lemma =>
                have hst := stat_p CZ.out (by have := HI.out; omega) m (x := ⟨m, 1, x.mode, x.uid, x.gid, T.dirs m x, x.names.length⟩) (b := true) (by rw [htl.1]; unfold TreeV.statOf; rw [if_pos hk1, hk1])
                simp only at hst
                have hna : T.namesAt m = sortedN x.names := by unfold TreeV.namesAt; rw [TreeV.dir_of hx hk1]
                rw [hna] at hNm
                have hnl := sortedN_len x.names
                have hn6 := (C.out.1.small.node hx).2.2
                have hone := C.out.1.good.ok.once _ (aget_memN hx)
                simp only at hone
                have HN := Lib.hid (And.intro hk1 (And.intro hone hnl))
                have hnn : x.names.length ≤ 1000000 := by have := HI.out; omega
                rw [hnl] at hNm
                generalize hnn2 : x.names.length = nn at *
                have HNN := Lib.hid hnn2
                generalize hdd : T.dirs m x = dd at *
                have HDD := Lib.hid hdd
                clear hx htl hk1 hna hnl hn6 hone hnn2 hdd
                go_upto_region 23 with (first
                  | (go_at_call 14
                     refine (hst _ (Keep.refl _ _)).mono ?_
                     rintro e wq ⟨rfl, kq⟩
                     have kq2 := kq.trans (Keep.alloc wq (.cells #[.int .i64 m, .int .i64 1, .int .i64 x.mode, .int .i64 x.uid, .int .i64 x.gid, .int .i64 dd, .int .i64 nn] 28) (fun _ => False)) (fun _ q => q.elim)
                     have hbx := heap_alloc_eq wq (.cells #[.int .i64 m, .int .i64 1, .int .i64 x.mode, .int .i64 x.uid, .int .i64 x.gid, .int .i64 dd, .int .i64 nn] 28)
                     have lc2 := kq2.cell lc (fun q => q)
                     have hNm2 := hNm _ kq2
                     have KQ := Lib.hid (And.intro kq2 hbx)
                     clear hst kq kq2 hbx hNm)
                  | (go_at_call 18
                     refine hNm2.mono ?_
                     rintro e wn ⟨vn, rfl, r1, r2, r3⟩
                     obtain ⟨na, nc, rfl, -⟩ := rows_val2 r1
                     have lc3 := r2.cell lc2 (fun q => q)
                     have hb3 := r2.get KQ.out.2 (fun q => q)
                     have d0 := cell_blk hb3 0
                     have d1 := cell_blk hb3 1
                     have d5 := cell_blk hb3 5
                     have d6 := cell_blk hb3 6
                     simp only [List.getElem?_toArray, List.getElem?_cons_zero, List.getElem?_cons_succ] at d0 d1 d5 d6
                     have NN := Lib.hid (And.intro (KQ.out.1.trans r2 (fun _ q => q.elim)) (And.intro hb3 (ListIn.of_own r1)))
                     clear hNm2 r1 r2 r3 lc2 hb3))
                go_quiet (fail)
                go_wp2
                have D5 := Lib.hid (And.intro d5 d6)
                have D1 := Lib.hid (And.intro d0 d1)
                have L3 := Lib.hid lc3
                have hul : dirsUpto T x nn = (x.names.filter fun e => T.isDir e.2).length := dirsUpto_all HN.out.2.1 (by rw [HN.out.2.2]; exact Nat.le_refl _)
                have hd2 : dd = 2 + ((dirsUpto T x nn : Nat) : Int) := by rw [hul, ← HDD.out]; unfold TreeV.dirs; rw [if_pos (HX.out.2.2 HN.out.1)]
                have HD2 := Lib.hid hd2
                clear d0 d1 d5 d6 lc3 lc hul hd2 gmm
                go_loopg [12, 13] nn (fun g s12 s13 wr => ∃ k : Nat, s13 = .int .i64 k ∧ s12 = .int .i64 (dirsUpto T x k : Nat) ∧ k + g = nn ∧ Keep wn wr (fun _ => False))
                case atStart => exact ⟨0, rfl, by rw [dirsUpto_zero]; rfl, by omega, by first | exact Keep.refl _ _ | exact Keep.drew _ _ | exact drewN_keep _ _ _⟩
                case round => as_aux_lemma =>
                  obtain ⟨wy, rfl⟩ : ∃ wy : World, wy = wr := ⟨_, rfl⟩
                  obtain ⟨k, rfl, rfl, hkn, hky⟩ := hrel
                  have KY := Lib.hid hky
                  have CY := Lib.hid (CZ.out.step (NN.out.1.trans hky (fun _ q => q.elim)))
                  have l3 := KY.out.cell L3.out (fun q => q)
                  clear hky
                  have hdl : dirsUpto T x k ≤ 1000000 := by
                    have : dirsUpto T x k ≤ ((sortedN x.names).take k).length := List.length_filter_le ..
                    rw [List.length_take, HN.out.2.2] at this
                    omega
                  by_cases hkl : k < nn
                  · have hkl' : (k : Int) < (nn : Int) := by omega
                    obtain ⟨bn, on, rfl, -, fn⟩ := NN.out.2.2.some (by rw [List.length_map, HN.out.2.2]; omega)
                    obtain ⟨st, hst⟩ : ∃ st, (sortedN x.names)[k]? = some st := ⟨_, List.getElem?_eq_getElem (by rw [HN.out.2.2]; exact hkl)⟩
                    obtain ⟨n, hn, -⟩ := sorted_found HN.out.2.1 hst
                    have hsc := dirsUpto_succ (T := T) hst hn
                    obtain ⟨hfd, ⟨v0, v1, v2, v3, v4, v5, v6⟩, hsv, hv1⟩ := C.out.1.good.ok.child C.out.2 HX.out.1 HN.out.1 hn
                    simp only at hv1
                    have cn := KY.out.cell (fn k _ (mapGet hst)) (fun q => q)
                    have hfi : ∀ w', Keep wy w' (fun _ => False) → Calls Try.prog 13 #[.pointer (some ⟨tb, 0, none⟩), .int .i64 m, .string st] w' fun e w'' => e = .returned (.tuple #[.int .i64 n, .bool true]) ∧ Keep w' w'' (fun _ => False) := by
                      intro w' K'
                      have := tfind_c (CY.out.step K').tab m st
                      rw [hfd] at this
                      refine this.mono ?_
                      rintro e w'' ⟨rfl, rfl⟩
                      exact ⟨rfl, Keep.refl _ _⟩
                    have hsi := stat_p CY.out (by have := HI.out; omega) n hsv
                    simp only at hsi
                    have hcase : (∃ x0, k ≠ 0 ∧ wn.cell? ⟨bn, on + (k - 1), none⟩ = some (.string x0) ∧ Op.bytesLess x0.toList st.toList = true) ∨ k = 0 := by
                      rcases Nat.eq_zero_or_pos k with q | q
                      · exact .inr q
                      · obtain ⟨x0, h0⟩ : ∃ x0, (sortedN x.names)[k - 1]? = some x0 := ⟨_, List.getElem?_eq_getElem (by rw [HN.out.2.2]; omega)⟩
                        have hs2 := sorted_strict HN.out.2.1 h0 (by rw [show k - 1 + 1 = k from by omega]; exact hst)
                        exact .inl ⟨x0, by omega, fn (k - 1) _ (mapGet h0), less_of hs2.1 hs2.2⟩
                    have HC := Lib.hid (And.intro hcase (And.intro hsc hv1))
                    have CN := Lib.hid (fn k _ (mapGet hst))
                    clear fn hst hn hfd hsv hcase hsc hv1
                    generalize hdu : dirsUpto T x k = du at *
                    go_wp2
                    go_region_held3 (fun w' => w'.cell? ⟨bv, ov + j, none⟩ = some (.int .i64 m) ∧ w'.cell? ⟨bn, on + k, none⟩ = some (.string st)) (go_keep) (first
                      | (go_at_call 13
                         refine (hfi _ ?_).mono ?_
                         · first | exact Keep.refl _ _ | exact Keep.drew _ _ | exact drewN_keep _ _ _
                         rintro e w4 ⟨rfl, k4⟩
                         have K4 := Lib.hid ((drewN_keep wy (fun _ => False) _).trans k4 (fun _ q => q.elim))
                         have l4 := K4.out.cell l3 (fun q => q)
                         have n4 := K4.out.cell cn (fun q => q)
                         have hs4 := hsi _ K4.out
                         clear hfi k4 hsi))
                    have hk0 : decide ((k : Int) > 0) = !(decide (k = 0)) := by by_cases q : k = 0 <;> simp [q] <;> omega
                    clear l3 cn
                    go_upto_region 32 with (
                      go_at_call 14
                      refine hs4.mono ?_
                      rintro e w5 ⟨rfl, k5⟩
                      have k6 := k5.trans (Keep.alloc w5 (.cells #[.int .i64 v0, .int .i64 v1, .int .i64 v2, .int .i64 v3, .int .i64 v4, .int .i64 v5, .int .i64 v6] 28) (fun _ => False)) (fun _ q => q.elim)
                      have hbx := heap_alloc_eq w5 (.cells #[.int .i64 v0, .int .i64 v1, .int .i64 v2, .int .i64 v3, .int .i64 v4, .int .i64 v5, .int .i64 v6] 28)
                      have x1 := cell_blk hbx 1
                      simp only [List.getElem?_toArray, List.getElem?_cons_zero, List.getElem?_cons_succ] at x1
                      have n6 := k6.cell n4 (fun q => q)
                      have K6 := Lib.hid (K4.out.trans k6 (fun _ q => q.elim))
                      clear hs4 n4 l4 k5 k6 hbx)
                    clear hk0
                    rcases HC.out.1 with ⟨x0, q1, q2, q3⟩ | hj0
                    · obtain ⟨p, rfl⟩ : ∃ p, k = p + 1 := ⟨k - 1, by omega⟩
                      simp only [Nat.add_sub_cancel] at q2
                      have n5 := (KY.out.trans K6.out (fun _ q => q.elim)).cell q2 (fun q => q)
                      have f6 : decide ((p : Int) + 1 > 0) = true := decide_eq_true (by omega)
                      have f7 : decide ((0 : Int) < (p : Int) + 1) = true := decide_eq_true (by omega)
                      have g8 : (p : Int) + 1 < (nn : Int) := by omega
                      have g10 : (p : Int) < (nn : Int) := by omega
                      have g7 : p < nn := by omega
                      have gx : (0 : Int) ≤ (p : Int) + 1 := by omega
                      have gy : ((p : Int) + 1).toNat = p + 1 := by omega
                      have gw : IntKind.i64.wrap (p : Int) = (p : Int) := IntWalk.i64_in _ (by omega)
                      clear q2
                      rw [show ((p + 1 : Nat) : Int) = (p : Int) + 1 from rfl]
                      go_quiet (fail)
                      by_cases hv : v1 = 1
                      · have e1 : (v1 == 1) = true := by simpa using hv
                        have hdn : dirsUpto T x ((p + 1) + 1) = du + 1 := by rw [HC.out.2.1, if_pos (HC.out.2.2.1 hv)]
                        have HDN := Lib.hid hdn
                        clear hv hdn
                        go_wp2
                        go_roundg (nn - ((p + 1) + 1))
                        case measure => omega
                        case rel => exact ⟨(p + 1) + 1, by go_num, by rw [HDN.out]; go_num, by omega, KY.out.trans (K6.out.trans (drewN_keep _ (fun _ => False) _) (fun _ q => q.elim)) (fun _ q => q.elim)⟩
                      · have e1 : (v1 == 1) = false := by simpa using hv
                        have hdn : dirsUpto T x ((p + 1) + 1) = du := by rw [HC.out.2.1, if_neg (fun q => hv (HC.out.2.2.2 q)), Nat.add_zero]
                        have HDN := Lib.hid hdn
                        clear hv hdn
                        go_wp2
                        go_roundg (nn - ((p + 1) + 1))
                        case measure => omega
                        case rel => exact ⟨(p + 1) + 1, by go_num, by rw [HDN.out], by omega, KY.out.trans (K6.out.trans (drewN_keep _ (fun _ => False) _) (fun _ q => q.elim)) (fun _ q => q.elim)⟩
                    · subst hj0
                      go_quiet (fail)
                      by_cases hv : v1 = 1
                      · have e1 : (v1 == 1) = true := by simpa using hv
                        have hdn : dirsUpto T x (0 + 1) = du + 1 := by rw [HC.out.2.1, if_pos (HC.out.2.2.1 hv)]
                        have HDN := Lib.hid hdn
                        clear hv hdn
                        go_wp2
                        go_roundg (nn - (0 + 1))
                        case measure => omega
                        case rel => exact ⟨0 + 1, by go_num, by rw [HDN.out]; go_num, by omega, KY.out.trans (K6.out.trans (drewN_keep _ (fun _ => False) _) (fun _ q => q.elim)) (fun _ q => q.elim)⟩
                      · have e1 : (v1 == 1) = false := by simpa using hv
                        have hdn : dirsUpto T x (0 + 1) = du := by rw [HC.out.2.1, if_neg (fun q => hv (HC.out.2.2.2 q)), Nat.add_zero]
                        have HDN := Lib.hid hdn
                        clear hv hdn
                        go_wp2
                        go_roundg (nn - (0 + 1))
                        case measure => omega
                        case rel => exact ⟨0 + 1, by go_num, by rw [HDN.out], by omega, KY.out.trans (K6.out.trans (drewN_keep _ (fun _ => False) _) (fun _ q => q.elim)) (fun _ q => q.elim)⟩
                  · have hkl' : ¬ (k : Int) < (nn : Int) := by omega
                    obtain rfl : k = nn := by omega
                    have y5 := KY.out.cell D5.out.1 (fun q => q)
                    have y6 := KY.out.cell D5.out.2 (fun q => q)
                    have hnf : ∀ w', Keep wy w' (fun _ => False) → Calls Try.prog 13 #[.pointer (some ⟨tb, 0, none⟩), .int .i64 m, .string ⟨#[110, 111, 110, 101]⟩] w' fun e w'' => e = .returned (.tuple #[.int .i64 0, .bool false]) ∧ Keep w' w'' (fun _ => False) := by
                      intro w' K'
                      have := tfind_c (CY.out.step K').tab m ⟨#[110, 111, 110, 101]⟩
                      rw [TreeV.none_found C.out.2] at this
                      refine this.mono ?_
                      rintro e w'' ⟨rfl, rfl⟩
                      exact ⟨rfl, Keep.refl _ _⟩
                    generalize hdu : dirsUpto T x k = du at *
                    have hdd : dd = 2 + (du : Int) := HD2.out
                    subst hdd
                    have f0 : ((k : Int) != (k : Int)) = false := by simp
                    have f1 : ((2 + (du : Int)) != (2 + (du : Int))) = false := by simp
                    go_wp2_with (
                      go_at_call 13
                      refine (hnf _ ?_).mono ?_
                      · first | exact Keep.refl _ _ | exact Keep.drew _ _ | exact drewN_keep _ _ _
                      rintro e w4 ⟨rfl, k4⟩
                      have K4 := Lib.hid k4
                      clear hnf k4 y5 y6 l3)
                    go_roundg (ln - (j + 1))
                    case measure => omega
                    case rel => exact ⟨j + 1, by go_num, by omega, KZ.out.trans (NN.out.1.trans (KY.out.trans K4.out (fun _ q => q.elim)) (fun _ q => q.elim)) (fun _ q => q.elim)⟩
              · as_aux_lemma =>
                obtain ⟨⟨v0, v1, v2, v3, v4, v5, v6⟩, hsv, hv0, hv1⟩ : ∃ v : TreeV.StatV, T.stat m = (v, true) ∧ v.node = m ∧ v.kind = x.kind := by
                  refine ⟨_, htl.1, ?_, ?_⟩ <;> unfold TreeV.statOf <;> repeat (first | rfl | split)
                simp only at hv0 hv1
                subst hv0
                have hst := stat_p CZ.out (by have := HI.out; omega) v0 hsv
                simp only at hst
                have hna : T.namesAt v0 = [] := by
                  have hq : T.dir v0 = none := (by unfold TreeV.dir; rw [hx]; simp [Option.filter_some, hk1])
                  unfold TreeV.namesAt
                  rw [hq]
                rw [hna] at hNm
                have g1 : (v1 == 1) = false := by rw [hv1]; simpa using hk1
                have g2 : (v1 != 1) = true := by rw [hv1]; simpa using hk1
                clear hx htl hk1 hna hsv hv1
                simp only [List.length_nil, List.map_nil] at hNm
                go_upto_region 23 with (first
                  | (go_at_call 14
                     refine (hst _ (Keep.refl _ _)).mono ?_
                     rintro e wq ⟨rfl, kq⟩
                     have kq2 := kq.trans (Keep.alloc wq (.cells #[.int .i64 v0, .int .i64 v1, .int .i64 v2, .int .i64 v3, .int .i64 v4, .int .i64 v5, .int .i64 v6] 28) (fun _ => False)) (fun _ q => q.elim)
                     have hbx := heap_alloc_eq wq (.cells #[.int .i64 v0, .int .i64 v1, .int .i64 v2, .int .i64 v3, .int .i64 v4, .int .i64 v5, .int .i64 v6] 28)
                     have lc2 := kq2.cell lc (fun q => q)
                     have hNm2 := hNm _ kq2
                     have KQ := Lib.hid (And.intro kq2 hbx)
                     clear hst kq kq2 hbx hNm)
                  | (go_at_call 18
                     refine hNm2.mono ?_
                     rintro e wn ⟨vn, rfl, r1, r2, r3⟩
                     obtain ⟨na, nc, rfl, -⟩ := rows_val2 r1
                     have lc3 := r2.cell lc2 (fun q => q)
                     have hb3 := r2.get KQ.out.2 (fun q => q)
                     have d0 := cell_blk hb3 0
                     have d1 := cell_blk hb3 1
                     simp only [List.getElem?_toArray, List.getElem?_cons_zero, List.getElem?_cons_succ] at d0 d1
                     have NN := Lib.hid (KQ.out.1.trans r2 (fun _ q => q.elim))
                     clear hNm2 r1 r2 r3 lc2 hb3))
                go_quiet (fail)
                go_wp2
                go_roundg (ln - (j + 1))
                case measure => omega
                case rel => exact ⟨j + 1, by go_num, by omega, KZ.out.trans (NN.out.trans (drewN_keep _ (fun _ => False) _) (fun _ q => q.elim)) (fun _ q => q.elim)⟩
            · as_aux_lemma =>
              have hjl' : ¬ (j : Int) < (ln : Int) := by omega
              have hK := tknown_c wz
              go_wp2_with (
                go_at_call 16
                refine hK.mono ?_
                rintro e' wk ⟨rfl, kk⟩
                have CK := Lib.hid (CZ.out.step kk)
                clear hK kk)
              go_ret
              exact ⟨rfl, CK.out.below⟩
    · by_cases hlt : (i : Int) < (len : Int)
      all_goals
        as_aux_lemma =>
          have hlv := tlive_c C.out.1.tab C.out.1.good.ok
          have HI := Lib.hid (show i ≤ 50 by omega)
          go_upto_region 18 with (
            go_at_call 23
            refine hlv.mono ?_
            rintro e w6 ⟨v6, rfl, r1, r2, r3⟩
            obtain ⟨va, vc, rfl, -⟩ := rows_val2 r1
            have C6 := Lib.hid (And.intro (C.out.1.step r2) (ListIn.of_own r1))
            clear hlv r1 r2 r3)
          go_wp2
          have hl64 : T.live.length ≤ 64 := by have := C.out.1.good.ok.room; unfold TreeV.live; rw [List.length_map]; omega
          generalize hln : T.live.length = ln at *
          have HLN := Lib.hid hln
          clear hln
          go_loopg [8] ln (fun g s8 wz => ∃ j : Nat, s8 = .int .i64 j ∧ j + g = ln ∧ Keep w6 wz (fun _ => False))
          case atStart => exact ⟨0, rfl, by omega, Keep.refl _ _⟩
          case round =>
            obtain ⟨wz, rfl⟩ : ∃ wz : World, wz = wr := ⟨_, rfl⟩
            obtain ⟨j, rfl, hj, hkz⟩ := hrel
            have KZ := Lib.hid hkz
            have CZ := Lib.hid (C6.out.1.step hkz)
            clear hkz
            by_cases hjl : j < ln
            · have hjl' : (j : Int) < (ln : Int) := by omega
              obtain ⟨bv, ov, rfl, hbv, fv⟩ := C6.out.2.some (by rw [List.length_map, HLN.out]; omega)
              obtain ⟨m, hm⟩ : ∃ m, T.live[j]? = some m := ⟨_, List.getElem?_eq_getElem (by rw [HLN.out]; exact hjl)⟩
              have lc6 := fv j _ (mapGet hm)
              have lc := KZ.out.cell lc6 (fun q => q)
              obtain ⟨x, hx⟩ : ∃ x, aget T.all m = some x := by
                cases hq : aget T.all m with
                | some x => exact ⟨x, rfl⟩
                | none => exact absurd (List.mem_of_getElem? hm) (aget_out hq)
              have htl := C.out.1.good.ok.tells C.out.2 hx
              have HLC := Lib.hid lc6
              have HX := Lib.hid (And.intro hx htl)
              clear fv hm hbv lc6
              have hNm := fun w' (K : Keep wz w' (fun _ => False)) => tnames_c (CZ.out.step K).tab ((CZ.out.step K).small.mono (by have := HI.out; omega)) m
              have gmm : (m != m) = false := by simp
              by_cases hk1 : x.kind = 1
              · as_aux_lemma =>
                have hst := stat_p CZ.out (by have := HI.out; omega) m (x := ⟨m, 1, x.mode, x.uid, x.gid, T.dirs m x, x.names.length⟩) (b := true) (by rw [htl.1]; unfold TreeV.statOf; rw [if_pos hk1, hk1])
                simp only at hst
                have hna : T.namesAt m = sortedN x.names := by unfold TreeV.namesAt; rw [TreeV.dir_of hx hk1]
                rw [hna] at hNm
                have hnl := sortedN_len x.names
                have hn6 := (C.out.1.small.node hx).2.2
                have hone := C.out.1.good.ok.once _ (aget_memN hx)
                simp only at hone
                have HN := Lib.hid (And.intro hk1 (And.intro hone hnl))
                have hnn : x.names.length ≤ 1000000 := by have := HI.out; omega
                rw [hnl] at hNm
                generalize hnn2 : x.names.length = nn at *
                have HNN := Lib.hid hnn2
                generalize hdd : T.dirs m x = dd at *
                have HDD := Lib.hid hdd
                clear hx htl hk1 hna hnl hn6 hone hnn2 hdd
                go_upto_region 23 with (first
                  | (go_at_call 14
                     refine (hst _ (Keep.refl _ _)).mono ?_
                     rintro e wq ⟨rfl, kq⟩
                     have kq2 := kq.trans (Keep.alloc wq (.cells #[.int .i64 m, .int .i64 1, .int .i64 x.mode, .int .i64 x.uid, .int .i64 x.gid, .int .i64 dd, .int .i64 nn] 28) (fun _ => False)) (fun _ q => q.elim)
                     have hbx := heap_alloc_eq wq (.cells #[.int .i64 m, .int .i64 1, .int .i64 x.mode, .int .i64 x.uid, .int .i64 x.gid, .int .i64 dd, .int .i64 nn] 28)
                     have lc2 := kq2.cell lc (fun q => q)
                     have hNm2 := hNm _ kq2
                     have KQ := Lib.hid (And.intro kq2 hbx)
                     clear hst kq kq2 hbx hNm)
                  | (go_at_call 18
                     refine hNm2.mono ?_
                     rintro e wn ⟨vn, rfl, r1, r2, r3⟩
                     obtain ⟨na, nc, rfl, -⟩ := rows_val2 r1
                     have lc3 := r2.cell lc2 (fun q => q)
                     have hb3 := r2.get KQ.out.2 (fun q => q)
                     have d0 := cell_blk hb3 0
                     have d1 := cell_blk hb3 1
                     have d5 := cell_blk hb3 5
                     have d6 := cell_blk hb3 6
                     simp only [List.getElem?_toArray, List.getElem?_cons_zero, List.getElem?_cons_succ] at d0 d1 d5 d6
                     have NN := Lib.hid (And.intro (KQ.out.1.trans r2 (fun _ q => q.elim)) (And.intro hb3 (ListIn.of_own r1)))
                     clear hNm2 r1 r2 r3 lc2 hb3))
                go_quiet (fail)
                go_wp2
                have D5 := Lib.hid (And.intro d5 d6)
                have D1 := Lib.hid (And.intro d0 d1)
                have L3 := Lib.hid lc3
                have hul : dirsUpto T x nn = (x.names.filter fun e => T.isDir e.2).length := dirsUpto_all HN.out.2.1 (by rw [HN.out.2.2]; exact Nat.le_refl _)
                have hd2 : dd = 2 + ((dirsUpto T x nn : Nat) : Int) := by rw [hul, ← HDD.out]; unfold TreeV.dirs; rw [if_pos (HX.out.2.2 HN.out.1)]
                have HD2 := Lib.hid hd2
                clear d0 d1 d5 d6 lc3 lc hul hd2 gmm
                go_loopg [12, 13] nn (fun g s12 s13 wr => ∃ k : Nat, s13 = .int .i64 k ∧ s12 = .int .i64 (dirsUpto T x k : Nat) ∧ k + g = nn ∧ Keep wn wr (fun _ => False))
                case atStart => exact ⟨0, rfl, by rw [dirsUpto_zero]; rfl, by omega, by first | exact Keep.refl _ _ | exact Keep.drew _ _ | exact drewN_keep _ _ _⟩
                case round => as_aux_lemma =>
                  obtain ⟨wy, rfl⟩ : ∃ wy : World, wy = wr := ⟨_, rfl⟩
                  obtain ⟨k, rfl, rfl, hkn, hky⟩ := hrel
                  have KY := Lib.hid hky
                  have CY := Lib.hid (CZ.out.step (NN.out.1.trans hky (fun _ q => q.elim)))
                  have l3 := KY.out.cell L3.out (fun q => q)
                  clear hky
                  have hdl : dirsUpto T x k ≤ 1000000 := by
                    have : dirsUpto T x k ≤ ((sortedN x.names).take k).length := List.length_filter_le ..
                    rw [List.length_take, HN.out.2.2] at this
                    omega
                  by_cases hkl : k < nn
                  · have hkl' : (k : Int) < (nn : Int) := by omega
                    obtain ⟨bn, on, rfl, -, fn⟩ := NN.out.2.2.some (by rw [List.length_map, HN.out.2.2]; omega)
                    obtain ⟨st, hst⟩ : ∃ st, (sortedN x.names)[k]? = some st := ⟨_, List.getElem?_eq_getElem (by rw [HN.out.2.2]; exact hkl)⟩
                    obtain ⟨n, hn, -⟩ := sorted_found HN.out.2.1 hst
                    have hsc := dirsUpto_succ (T := T) hst hn
                    obtain ⟨hfd, ⟨v0, v1, v2, v3, v4, v5, v6⟩, hsv, hv1⟩ := C.out.1.good.ok.child C.out.2 HX.out.1 HN.out.1 hn
                    simp only at hv1
                    have cn := KY.out.cell (fn k _ (mapGet hst)) (fun q => q)
                    have hfi : ∀ w', Keep wy w' (fun _ => False) → Calls Try.prog 13 #[.pointer (some ⟨tb, 0, none⟩), .int .i64 m, .string st] w' fun e w'' => e = .returned (.tuple #[.int .i64 n, .bool true]) ∧ Keep w' w'' (fun _ => False) := by
                      intro w' K'
                      have := tfind_c (CY.out.step K').tab m st
                      rw [hfd] at this
                      refine this.mono ?_
                      rintro e w'' ⟨rfl, rfl⟩
                      exact ⟨rfl, Keep.refl _ _⟩
                    have hsi := stat_p CY.out (by have := HI.out; omega) n hsv
                    simp only at hsi
                    have hcase : (∃ x0, k ≠ 0 ∧ wn.cell? ⟨bn, on + (k - 1), none⟩ = some (.string x0) ∧ Op.bytesLess x0.toList st.toList = true) ∨ k = 0 := by
                      rcases Nat.eq_zero_or_pos k with q | q
                      · exact .inr q
                      · obtain ⟨x0, h0⟩ : ∃ x0, (sortedN x.names)[k - 1]? = some x0 := ⟨_, List.getElem?_eq_getElem (by rw [HN.out.2.2]; omega)⟩
                        have hs2 := sorted_strict HN.out.2.1 h0 (by rw [show k - 1 + 1 = k from by omega]; exact hst)
                        exact .inl ⟨x0, by omega, fn (k - 1) _ (mapGet h0), less_of hs2.1 hs2.2⟩
                    have HC := Lib.hid (And.intro hcase (And.intro hsc hv1))
                    have CN := Lib.hid (fn k _ (mapGet hst))
                    clear fn hst hn hfd hsv hcase hsc hv1
                    generalize hdu : dirsUpto T x k = du at *
                    go_wp2
                    go_region_held3 (fun w' => w'.cell? ⟨bv, ov + j, none⟩ = some (.int .i64 m) ∧ w'.cell? ⟨bn, on + k, none⟩ = some (.string st)) (go_keep) (first
                      | (go_at_call 13
                         refine (hfi _ ?_).mono ?_
                         · first | exact Keep.refl _ _ | exact Keep.drew _ _ | exact drewN_keep _ _ _
                         rintro e w4 ⟨rfl, k4⟩
                         have K4 := Lib.hid ((drewN_keep wy (fun _ => False) _).trans k4 (fun _ q => q.elim))
                         have l4 := K4.out.cell l3 (fun q => q)
                         have n4 := K4.out.cell cn (fun q => q)
                         have hs4 := hsi _ K4.out
                         clear hfi k4 hsi))
                    have hk0 : decide ((k : Int) > 0) = !(decide (k = 0)) := by by_cases q : k = 0 <;> simp [q] <;> omega
                    clear l3 cn
                    go_upto_region 32 with (
                      go_at_call 14
                      refine hs4.mono ?_
                      rintro e w5 ⟨rfl, k5⟩
                      have k6 := k5.trans (Keep.alloc w5 (.cells #[.int .i64 v0, .int .i64 v1, .int .i64 v2, .int .i64 v3, .int .i64 v4, .int .i64 v5, .int .i64 v6] 28) (fun _ => False)) (fun _ q => q.elim)
                      have hbx := heap_alloc_eq w5 (.cells #[.int .i64 v0, .int .i64 v1, .int .i64 v2, .int .i64 v3, .int .i64 v4, .int .i64 v5, .int .i64 v6] 28)
                      have x1 := cell_blk hbx 1
                      simp only [List.getElem?_toArray, List.getElem?_cons_zero, List.getElem?_cons_succ] at x1
                      have n6 := k6.cell n4 (fun q => q)
                      have K6 := Lib.hid (K4.out.trans k6 (fun _ q => q.elim))
                      clear hs4 n4 l4 k5 k6 hbx)
                    clear hk0
                    rcases HC.out.1 with ⟨x0, q1, q2, q3⟩ | hj0
                    · obtain ⟨p, rfl⟩ : ∃ p, k = p + 1 := ⟨k - 1, by omega⟩
                      simp only [Nat.add_sub_cancel] at q2
                      have n5 := (KY.out.trans K6.out (fun _ q => q.elim)).cell q2 (fun q => q)
                      have f6 : decide ((p : Int) + 1 > 0) = true := decide_eq_true (by omega)
                      have f7 : decide ((0 : Int) < (p : Int) + 1) = true := decide_eq_true (by omega)
                      have g8 : (p : Int) + 1 < (nn : Int) := by omega
                      have g10 : (p : Int) < (nn : Int) := by omega
                      have g7 : p < nn := by omega
                      have gx : (0 : Int) ≤ (p : Int) + 1 := by omega
                      have gy : ((p : Int) + 1).toNat = p + 1 := by omega
                      have gw : IntKind.i64.wrap (p : Int) = (p : Int) := IntWalk.i64_in _ (by omega)
                      clear q2
                      rw [show ((p + 1 : Nat) : Int) = (p : Int) + 1 from rfl]
                      go_quiet (fail)
                      by_cases hv : v1 = 1
                      · have e1 : (v1 == 1) = true := by simpa using hv
                        have hdn : dirsUpto T x ((p + 1) + 1) = du + 1 := by rw [HC.out.2.1, if_pos (HC.out.2.2.1 hv)]
                        have HDN := Lib.hid hdn
                        clear hv hdn
                        go_wp2
                        go_roundg (nn - ((p + 1) + 1))
                        case measure => omega
                        case rel => exact ⟨(p + 1) + 1, by go_num, by rw [HDN.out]; go_num, by omega, KY.out.trans (K6.out.trans (drewN_keep _ (fun _ => False) _) (fun _ q => q.elim)) (fun _ q => q.elim)⟩
                      · have e1 : (v1 == 1) = false := by simpa using hv
                        have hdn : dirsUpto T x ((p + 1) + 1) = du := by rw [HC.out.2.1, if_neg (fun q => hv (HC.out.2.2.2 q)), Nat.add_zero]
                        have HDN := Lib.hid hdn
                        clear hv hdn
                        go_wp2
                        go_roundg (nn - ((p + 1) + 1))
                        case measure => omega
                        case rel => exact ⟨(p + 1) + 1, by go_num, by rw [HDN.out], by omega, KY.out.trans (K6.out.trans (drewN_keep _ (fun _ => False) _) (fun _ q => q.elim)) (fun _ q => q.elim)⟩
                    · subst hj0
                      go_quiet (fail)
                      by_cases hv : v1 = 1
                      · have e1 : (v1 == 1) = true := by simpa using hv
                        have hdn : dirsUpto T x (0 + 1) = du + 1 := by rw [HC.out.2.1, if_pos (HC.out.2.2.1 hv)]
                        have HDN := Lib.hid hdn
                        clear hv hdn
                        go_wp2
                        go_roundg (nn - (0 + 1))
                        case measure => omega
                        case rel => exact ⟨0 + 1, by go_num, by rw [HDN.out]; go_num, by omega, KY.out.trans (K6.out.trans (drewN_keep _ (fun _ => False) _) (fun _ q => q.elim)) (fun _ q => q.elim)⟩
                      · have e1 : (v1 == 1) = false := by simpa using hv
                        have hdn : dirsUpto T x (0 + 1) = du := by rw [HC.out.2.1, if_neg (fun q => hv (HC.out.2.2.2 q)), Nat.add_zero]
                        have HDN := Lib.hid hdn
                        clear hv hdn
                        go_wp2
                        go_roundg (nn - (0 + 1))
                        case measure => omega
                        case rel => exact ⟨0 + 1, by go_num, by rw [HDN.out], by omega, KY.out.trans (K6.out.trans (drewN_keep _ (fun _ => False) _) (fun _ q => q.elim)) (fun _ q => q.elim)⟩
                  · have hkl' : ¬ (k : Int) < (nn : Int) := by omega
                    obtain rfl : k = nn := by omega
                    have y5 := KY.out.cell D5.out.1 (fun q => q)
                    have y6 := KY.out.cell D5.out.2 (fun q => q)
                    have hnf : ∀ w', Keep wy w' (fun _ => False) → Calls Try.prog 13 #[.pointer (some ⟨tb, 0, none⟩), .int .i64 m, .string ⟨#[110, 111, 110, 101]⟩] w' fun e w'' => e = .returned (.tuple #[.int .i64 0, .bool false]) ∧ Keep w' w'' (fun _ => False) := by
                      intro w' K'
                      have := tfind_c (CY.out.step K').tab m ⟨#[110, 111, 110, 101]⟩
                      rw [TreeV.none_found C.out.2] at this
                      refine this.mono ?_
                      rintro e w'' ⟨rfl, rfl⟩
                      exact ⟨rfl, Keep.refl _ _⟩
                    generalize hdu : dirsUpto T x k = du at *
                    have hdd : dd = 2 + (du : Int) := HD2.out
                    subst hdd
                    have f0 : ((k : Int) != (k : Int)) = false := by simp
                    have f1 : ((2 + (du : Int)) != (2 + (du : Int))) = false := by simp
                    go_wp2_with (
                      go_at_call 13
                      refine (hnf _ ?_).mono ?_
                      · first | exact Keep.refl _ _ | exact Keep.drew _ _ | exact drewN_keep _ _ _
                      rintro e w4 ⟨rfl, k4⟩
                      have K4 := Lib.hid k4
                      clear hnf k4 y5 y6 l3)
                    go_roundg (ln - (j + 1))
                    case measure => omega
                    case rel => exact ⟨j + 1, by go_num, by omega, KZ.out.trans (NN.out.1.trans (KY.out.trans K4.out (fun _ q => q.elim)) (fun _ q => q.elim)) (fun _ q => q.elim)⟩
              · as_aux_lemma =>
                obtain ⟨⟨v0, v1, v2, v3, v4, v5, v6⟩, hsv, hv0, hv1⟩ : ∃ v : TreeV.StatV, T.stat m = (v, true) ∧ v.node = m ∧ v.kind = x.kind := by
                  refine ⟨_, htl.1, ?_, ?_⟩ <;> unfold TreeV.statOf <;> repeat (first | rfl | split)
                simp only at hv0 hv1
                subst hv0
                have hst := stat_p CZ.out (by have := HI.out; omega) v0 hsv
                simp only at hst
                have hna : T.namesAt v0 = [] := by
                  have hq : T.dir v0 = none := (by unfold TreeV.dir; rw [hx]; simp [Option.filter_some, hk1])
                  unfold TreeV.namesAt
                  rw [hq]
                rw [hna] at hNm
                have g1 : (v1 == 1) = false := by rw [hv1]; simpa using hk1
                have g2 : (v1 != 1) = true := by rw [hv1]; simpa using hk1
                clear hx htl hk1 hna hsv hv1
                simp only [List.length_nil, List.map_nil] at hNm
                go_upto_region 23 with (first
                  | (go_at_call 14
                     refine (hst _ (Keep.refl _ _)).mono ?_
                     rintro e wq ⟨rfl, kq⟩
                     have kq2 := kq.trans (Keep.alloc wq (.cells #[.int .i64 v0, .int .i64 v1, .int .i64 v2, .int .i64 v3, .int .i64 v4, .int .i64 v5, .int .i64 v6] 28) (fun _ => False)) (fun _ q => q.elim)
                     have hbx := heap_alloc_eq wq (.cells #[.int .i64 v0, .int .i64 v1, .int .i64 v2, .int .i64 v3, .int .i64 v4, .int .i64 v5, .int .i64 v6] 28)
                     have lc2 := kq2.cell lc (fun q => q)
                     have hNm2 := hNm _ kq2
                     have KQ := Lib.hid (And.intro kq2 hbx)
                     clear hst kq kq2 hbx hNm)
                  | (go_at_call 18
                     refine hNm2.mono ?_
                     rintro e wn ⟨vn, rfl, r1, r2, r3⟩
                     obtain ⟨na, nc, rfl, -⟩ := rows_val2 r1
                     have lc3 := r2.cell lc2 (fun q => q)
                     have hb3 := r2.get KQ.out.2 (fun q => q)
                     have d0 := cell_blk hb3 0
                     have d1 := cell_blk hb3 1
                     simp only [List.getElem?_toArray, List.getElem?_cons_zero, List.getElem?_cons_succ] at d0 d1
                     have NN := Lib.hid (KQ.out.1.trans r2 (fun _ q => q.elim))
                     clear hNm2 r1 r2 r3 lc2 hb3))
                go_quiet (fail)
                go_wp2
                go_roundg (ln - (j + 1))
                case measure => omega
                case rel => exact ⟨j + 1, by go_num, by omega, KZ.out.trans (NN.out.trans (drewN_keep _ (fun _ => False) _) (fun _ q => q.elim)) (fun _ q => q.elim)⟩
            · as_aux_lemma =>
              have hjl' : ¬ (j : Int) < (ln : Int) := by omega
              have hK := tknown_c wz
              go_wp2_with (
                go_at_call 16
                refine hK.mono ?_
                rintro e' wk ⟨rfl, kk⟩
                have CK := Lib.hid (CZ.out.step kk)
                clear hK kk)
              go_ret
              exact ⟨rfl, CK.out.below⟩

end Go.Proofs.Ytnjfcedkfobbcaa
