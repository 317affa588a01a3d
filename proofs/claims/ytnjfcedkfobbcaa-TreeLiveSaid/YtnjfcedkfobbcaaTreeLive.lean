/-
  TreeLive: the walk.
-/
import Derived.Test.YtnjfcedkfobbcaaTreeLv2
import Derived.Laws.Cover1
import Derived.Deep.DeepCutAuto
import Derived.Deep.CutBlock
import Derived.Deep.CutRange
import Derived.BigQuiet
import Derived.Deep.QuietTactic
namespace Go.Proofs.Ytnjfcedkfobbcaa
open Go Go.RowKit Go.Shelf
set_option linter.unusedSectionVars false
set_option linter.unusedSimpArgs false
set_option linter.unusedVariables false
set_option maxRecDepth 100000

set_option maxHeartbeats 1600000 in
theorem live_walk (a : Option Addr) (len cap : Nat) (w : World) (h : StructsIs asksT w a len cap) :
    Calls Try.prog 7 #[.slice a len cap] w fun r w' => r = .returned (.bool true) ∧ Below w.heap.size w w' := by
  have h0 := newt_c (Keep.refl w _) 20 10 ⟨by decide, by decide⟩ ⟨by decide, by decide⟩
  have hcap := h.cap
  have hl1 : len ≤ 9223372036854775807 := by unfold maxLen at hcap; omega
  have HP := Lib.hid h
  clear hcap h
  go_enter Try.func7, Try.ntmps7
  go_upto_block 0 with (
    go_at_call 9
    refine h0.mono ?_
    rintro e w1 ⟨tb, s0, rfl, c0, -⟩
    have C0 := Lib.hid c0
    clear h0 c0)
  rw [zeroH]
  have hL0 : LvS w (w1.alloc (.cells (List.replicate 200 (Value.int .i64 0)).toArray 56)) tb w1.heap.size s0 (TreeV.new 20 10) (fun _ => 0) 1 :=
    ⟨C0.out.step (Keep.alloc _ _ _), Hd.new _ _, ArrH.zero (heap_alloc_eq w1 _), fun q => Nat.lt_irrefl _ (has_lt C0.out.tab q), C0.out.keep.size, rfl⟩
  have L0 := Lib.hid hL0
  obtain ⟨wz, hwz⟩ : ∃ wz, wz = w1.alloc (.cells (List.replicate 200 (Value.int .i64 0)).toArray 56) := ⟨_, rfl⟩
  rw [← hwz] at L0 ⊢
  clear hL0 C0 hwz
  generalize w1.heap.size = hb at *
  go_cut [] (fun wx => ∃ s T H, LvS w wx tb hb s T H 181)
  case first => as_aux_lemma =>
    -- {{
    go_wp2_with fail
    go_loopg [6] 60 (fun g s6 wr => ∃ (i : Nat) (s : TShape) (T : TreeV) (H : Int → Int), s6 = .int .i64 i ∧ i + g = 60 ∧ LvS w wr tb hb s T H (1 + 3 * i))
    case atStart => exact ⟨0, s0, _, _, rfl, rfl, L0.out⟩
    case round =>
      obtain ⟨i, s, T, H, rfl, hig, hc⟩ := hrel
      have C := Lib.hid hc
      clear hc
      by_cases hlt : i < len
      · by_cases h60 : (i : Int) < 60
        · have hlt' : (i : Int) < (len : Int) := by omega
          have hk9 : (1 + 3 * (i : Int)) ≤ 900000 := by omega
          obtain ⟨b1, o1, rfl, hb1, f1⟩ := asksT_at HP.out (by omega)
          obtain ⟨x, hx, -⟩ := f1 i hlt
          obtain ⟨y0, y1, y2, y3, y4, y5, y6, y7, y8, y9, y10, y11, y12, y13⟩ := hx.keep C.out.cur.keep (fun q => q)
          have htm := fun w' => tame_c w' x
          simp only [askC] at htm
          clear f1 hx hb1
          obtain ⟨n0, hn0⟩ : ∃ n0, T.all.length = n0 := ⟨_, rfl⟩
          have hr0 := C.out.cur.good.ok.room.1
          rw [hn0, C.out.most] at hr0
          have hlv := live_p C.out.cur hn0
          have N0 := Lib.hid hn0
          clear hn0
          go_upto_block 2 with (first
            | (go_at_call 10
               refine (htm _).mono ?_
               rintro e w2 ⟨d, t, sk, ak, kk, rfl, hd, ht, hsk, hak, hkk, k2⟩
               have kz := Keep.alloc w2 (.cells (askC { x with dir := d, to_ := t, s := sk, as_ := ak, st := { x.st with kind := kk } }) 31) (fun _ => False)
               have hL2 := hlv _ (k2.trans kz (fun _ q => q.elim))
               have B2 := Lib.hid (heap_alloc_eq w2 (.cells (askC { x with dir := d, to_ := t, s := sk, as_ := ak, st := { x.st with kind := kk } }) 31))
               have K2 := Lib.hid (k2.trans kz (fun _ q => q.elim))
               have Z2 := Lib.hid k2.size
               have HK := Lib.hid (And.intro hd (And.intro hsk hak))
               clear htm hlv k2 kz hd ht hsk hak hkk y0 y1 y2 y3 y4 y5 y6 y7 y8 y9 y10 y11 y12 y13
               simp only [askC] at hL2)
            | (go_at_call 23
               refine hL2.mono ?_
               rintro e w3 ⟨va, vc, rfl, k3⟩
               have hB3 := k3.get B2.out (fun q => q)
               obtain ⟨z0, z1, z2, -, z4, z5, z6, z7, z8, z9, z10, z11, z12, -⟩ := askAt_blk hB3
               simp only [askC, Nat.zero_add] at z0 z1 z2 z4 z5 z6 z7 z8 z9 z10 z11 z12
               have B3 := Lib.hid hB3
               have C3 := Lib.hid (C.out.step (K2.out.trans k3 (fun _ q => q.elim)))
               clear hL2 k3 hB3))
          go_cut [9] (fun f wc => ∃ (e : Int) (T2 : TreeV) (s2 : TShape) (H2 : Int → Int), f = .int .i64 e ∧ (e ≠ 0 → T2.all.length = n0) ∧ LvS w wc tb hb s2 T2 H2 (1 + 3 * ((i : Int) + 1)))
          case first => as_aux_lemma =>
            by_cases q1 : x.kind = 1
            · as_aux_lemma =>
                have e1 : (x.kind == 1) = true := by simpa using q1
                clear q1
                have hmk := make_t C3.out.cur hk9 (right_key HK.out.2.1) d { x.st with kind := kk } ByteArray.empty
                simp only [statC] at hmk
                go_wp2_with (
                  go_at_call 11
                  refine (hmk _ (Keep.refl _ _)).mono ?_
                  rintro e w4 ⟨rfl, s4, c4, t4⟩
                  have L4 := Lib.hid (C3.out.turn (c4.more (k' := 1 + 3 * ((i : Int) + 1)) (by omega)) t4 (C3.out.hd.make C3.out.cur.good.ok ..) (fun _ => rfl) (make_kept T (r := true) d sk kk (maskV x.st.mode) x.st.uid x.st.gid ByteArray.empty).2)
                  clear hmk c4 t4)
                go_meet
                case rel => exact ⟨_, _, s4, H, rfl, fun q => by rw [(make_kept T (r := true) d sk kk (maskV x.st.mode) x.st.uid x.st.gid ByteArray.empty).1 q]; exact N0.out, L4.out⟩
            · have g1 : (x.kind == 1) = false := by simpa using q1
              by_cases q2 : x.kind = 2
              · as_aux_lemma =>
                  have e2 : (x.kind == 2) = true := by simpa using q2
                  clear q1 q2
                  have hmk := join_t C3.out.cur hk9 (right_key HK.out.2.1) d t
                  go_wp2_with (
                    go_at_call 24
                    refine (hmk _ (Keep.refl _ _)).mono ?_
                    rintro e w4 ⟨rfl, s4, c4, t4⟩
                    have L4 := Lib.hid (C3.out.turn (c4.more (k' := 1 + 3 * ((i : Int) + 1)) (by omega)) t4 (C3.out.hd.join ..) (fun _ => rfl) (join_kept T (r := true) d sk t).2)
                    clear hmk c4 t4)
                  go_meet
                  case rel => exact ⟨_, _, s4, H, rfl, fun q => by rw [(join_kept T (r := true) d sk t).1 q]; exact N0.out, L4.out⟩
              · have g2 : (x.kind == 2) = false := by simpa using q2
                by_cases q3 : x.kind = 3
                · as_aux_lemma =>
                    have e3 : (x.kind == 3) = true := by simpa using q3
                    clear q1 q2 q3
                    have hmk := part_t C3.out.cur hk9 d sk
                    go_wp2_with (
                      go_at_call 17
                      refine (hmk _ (Keep.refl _ _)).mono ?_
                      rintro e w4 ⟨rfl, s4, c4, t4⟩
                      have L4 := Lib.hid (C3.out.turn (c4.more (k' := 1 + 3 * ((i : Int) + 1)) (by omega)) t4 (C3.out.hd.part ..) (fun _ => rfl) (part_kept T d sk).2)
                      clear hmk c4 t4)
                    go_meet
                    case rel => exact ⟨_, _, s4, H, rfl, fun q => by rw [(part_kept T d sk).1 q]; exact N0.out, L4.out⟩
                · have g3 : (x.kind == 3) = false := by simpa using q3
                  by_cases q4 : x.kind = 4
                  · as_aux_lemma =>
                      have e4 : (x.kind == 4) = true := by simpa using q4
                      clear q1 q2 q3 q4
                      have hmk := move_t C3.out.cur hk9 (right_key HK.out.2.2) d sk t
                      go_wp2_with (
                        go_at_call 15
                        refine (hmk _ (Keep.refl _ _)).mono ?_
                        rintro e w4 ⟨rfl, s4, c4, t4⟩
                        have L4 := Lib.hid (C3.out.turn (c4.more (k' := 1 + 3 * ((i : Int) + 1)) (by omega)) t4 (C3.out.hd.move ..) (fun _ => rfl) (move_kept T (r := true) d sk t ak).2)
                        clear hmk c4 t4)
                      go_meet
                      case rel => exact ⟨_, _, s4, H, rfl, fun q => by rw [(move_kept T (r := true) d sk t ak).1 q]; exact N0.out, L4.out⟩
                  · have g4 : (x.kind == 4) = false := by simpa using q4
                    by_cases q5 : x.kind = 5
                    · as_aux_lemma =>
                        have e5 : (x.kind == 5) = true := by simpa using q5
                        clear q1 q2 q3 q4 q5
                        have hd0 := HK.out.1
                        have hmk := hold_t C3.out.cur hk9 d
                        have hle := C.out.le d
                        have hge := C.out.hd.pos d
                        obtain ⟨r, hr⟩ : ∃ r, (T.hold d).2 = r := ⟨_, rfl⟩
                        rw [hr] at hmk
                        by_cases hr0 : r = 0
                        · subst hr0
                          have HD := Lib.hid (C.out.hd.hold d hr)
                          clear hr
                          go_wp2_with (
                            go_at_call 19
                            refine (hmk _ (Keep.refl _ _)).mono ?_
                            rintro e w4 ⟨rfl, s4, c4, t4⟩
                            have ac4 := (C3.out.arr.keep t4.keep C3.out.off).cell (n := d) (by omega) (by omega)
                            have af4 := (C3.out.arr.keep t4.keep C3.out.off).free d.toNat
                            have x4 := (askAt_blk (t4.keep.get B3.out (fun q => by have := has_lt C.out.cur.tab q; have := Z2.out; omega))).c1
                            simp only [askC, Nat.zero_add] at x4
                            have L4 := Lib.hid (C3.out.stored (v := H d + 1) (c4.more (k' := 1 + 3 * ((i : Int) + 1)) (by omega)) t4 (by omega) (by omega) HD.out.1 (hold_kept T d).2)
                            clear hmk c4 t4)
                          go_meet
                          case rel => exact ⟨_, _, s4, _, rfl, fun q => absurd rfl q, L4.out⟩
                        · have HR := Lib.hid (show (T.hold d).2 ≠ 0 by rw [hr]; exact hr0)
                          have gr : (r == 0) = false := by simpa using hr0
                          clear hr hr0
                          go_wp2_with (
                            go_at_call 19
                            refine (hmk _ (Keep.refl _ _)).mono ?_
                            rintro e w4 ⟨rfl, s4, c4, t4⟩
                            have L4 := Lib.hid (C3.out.turn (c4.more (k' := 1 + 3 * ((i : Int) + 1)) (by omega)) t4 (by rw [(hold_kept T d).1 HR.out]; exact C3.out.hd) (fun _ => rfl) (hold_kept T d).2)
                            clear hmk c4 t4)
                          go_meet
                          case rel => exact ⟨_, _, s4, H, rfl, fun q => by rw [(hold_kept T d).1 HR.out]; exact N0.out, L4.out⟩
                    · have g5 : (x.kind == 5) = false := by simpa using q5
                      by_cases q6 : x.kind = 6
                      · as_aux_lemma =>
                          have e6 : (x.kind == 6) = true := by simpa using q6
                          clear q1 q2 q3 q4 q5 q6
                          have hd0 := HK.out.1
                          have hmk := loose_t C3.out.cur hk9 d
                          have hle := C.out.le d
                          have hge := C.out.hd.pos d
                          obtain ⟨r, hr⟩ : ∃ r, (T.loose d).2 = r := ⟨_, rfl⟩
                          rw [hr] at hmk
                          by_cases hr0 : r = 0
                          · subst hr0
                            have HD := Lib.hid (C.out.hd.loose d hr)
                            clear hr
                            go_wp2_with (
                              go_at_call 21
                              refine (hmk _ (Keep.refl _ _)).mono ?_
                              rintro e w4 ⟨rfl, s4, c4, t4⟩
                              have ac4 := (C3.out.arr.keep t4.keep C3.out.off).cell (n := d) (by omega) (by omega)
                              have af4 := (C3.out.arr.keep t4.keep C3.out.off).free d.toNat
                              have x4 := (askAt_blk (t4.keep.get B3.out (fun q => by have := has_lt C.out.cur.tab q; have := Z2.out; omega))).c1
                              simp only [askC, Nat.zero_add] at x4
                              have L4 := Lib.hid (C3.out.stored (v := H d - 1) (c4.more (k' := 1 + 3 * ((i : Int) + 1)) (by omega)) t4 (by omega) (by omega) HD.out.1 (loose_kept T d).2)
                              clear hmk c4 t4)
                            go_meet
                            case rel => exact ⟨_, _, s4, _, rfl, fun q => absurd rfl q, L4.out⟩
                          · have HR := Lib.hid (show (T.loose d).2 ≠ 0 by rw [hr]; exact hr0)
                            have gr : (r == 0) = false := by simpa using hr0
                            clear hr hr0
                            go_wp2_with (
                              go_at_call 21
                              refine (hmk _ (Keep.refl _ _)).mono ?_
                              rintro e w4 ⟨rfl, s4, c4, t4⟩
                              have L4 := Lib.hid (C3.out.turn (c4.more (k' := 1 + 3 * ((i : Int) + 1)) (by omega)) t4 (by rw [(loose_kept T d).1 HR.out]; exact C3.out.hd) (fun _ => rfl) (loose_kept T d).2)
                              clear hmk c4 t4)
                            go_meet
                            case rel => exact ⟨_, _, s4, H, rfl, fun q => by rw [(loose_kept T d).1 HR.out]; exact N0.out, L4.out⟩
                      · have g6 : (x.kind == 6) = false := by simpa using q6
                        clear q1 q2 q3 q4 q5 q6
                        go_wp2
                        go_meet
                        case rel => exact ⟨0, T, s, H, rfl, fun q => absurd rfl q, C3.out.more (by omega)⟩
          case rest => as_aux_lemma =>
            obtain ⟨e, T2, s2, H2, rfl, he, hL⟩ := hcut
            obtain ⟨n2, hn2⟩ : ∃ n2, T2.all.length = n2 := ⟨_, rfl⟩
            have h1 := live_p hL.cur hn2
            have h2 := left_p hL.cur hL.most hn2
            have hr2 := hL.cur.good.ok.room.1
            rw [hn2, hL.most] at hr2
            have hz1 : ((n2 : Int) != (n2 : Int)) = false := by simp
            have hz2 : ((20 : Int) - (n2 : Int) != 20 - (n2 : Int)) = false := by simp
            by_cases he0 : e = 0
            · subst he0
              have L := Lib.hid hL
              clear he hL hn2
              go_wp2_with (first
                | (go_at_call 22
                   refine (h2 _ (Keep.refl _ _)).mono ?_
                   rintro e w5 ⟨rfl, k5⟩
                   have h3 := h1 _ k5
                   have K5 := Lib.hid k5
                   clear h2 h1 k5)
                | (go_at_call 23
                   refine h3.mono ?_
                   rintro e w6 ⟨va6, vc6, rfl, k6⟩
                   have K6 := Lib.hid (K5.out.trans k6 (fun _ q => q.elim))
                   clear h3 k6))
              go_roundg (60 - (i + 1))
              case measure => omega
              case rel => exact ⟨i + 1, s2, T2, H2, by go_num, by omega, L.out.step K6.out⟩
            · have hee := he he0
              have ge : (e != 0) = true := by simpa using he0
              obtain rfl : n2 = n0 := by omega
              have L := Lib.hid hL
              clear he hL hn2 hee he0
              go_wp2_with (first
                | (go_at_call 23
                   refine (h1 _ (Keep.refl _ _)).mono ?_
                   rintro e w4 ⟨va4, vc4, rfl, k4⟩
                   have h3 := h2 _ k4
                   have K4 := Lib.hid k4
                   clear h2 k4)
                | (go_at_call 22
                   refine h3.mono ?_
                   rintro e w5 ⟨rfl, k5⟩
                   have K5 := Lib.hid (K4.out.trans k5 (fun _ q => q.elim))
                   have h4 := h1 _ K5.out
                   clear h3 h1 k5)
                | (go_at_call 23
                   refine h4.mono ?_
                   rintro e w6 ⟨va6, vc6, rfl, k6⟩
                   have K6 := Lib.hid (K5.out.trans k6 (fun _ q => q.elim))
                   clear h4 k6))
              go_roundg (60 - (i + 1))
              case measure => omega
              case rel => exact ⟨i + 1, s2, T2, H2, by go_num, by omega, L.out.step K6.out⟩
        · have hlt' : (i : Int) < (len : Int) := by omega
          go_wp2
          go_meet
          case rel => exact ⟨s, T, H, C.out.more (by omega)⟩
      · have hlt' : ¬ (i : Int) < (len : Int) := by omega
        go_wp2
        go_meet
        case rel => exact ⟨s, T, H, C.out.more (by omega)⟩
    -- }}
  case rest =>
    obtain ⟨s, T, H, hL⟩ := hcut
    have L := Lib.hid hL
    clear hL L0
    go_upto_block 3 with (fail)
    rw [zeroH]
    obtain ⟨wA, hwA⟩ : ∃ wA, wA = (wc.alloc (.cells ((List.replicate 200 (Value.int .i64 0)).toArray.setIfInBounds 1 (.int .i64 1)) 56)).alloc (.cells #[.int .i64 1] 3) := ⟨_, rfl⟩
    have hB0 := LvB.start wc T
    rw [← hwA] at hB0 ⊢
    clear hwA
    have BF0 := Bfs.start L.out.cur.good.ok
    have B0 := Lib.hid (And.intro hB0 BF0)
    clear hB0 BF0
    generalize wc.heap.size = rb at *
    obtain ⟨N, hN⟩ : ∃ N, T.all.length = N := ⟨_, rfl⟩
    have hN20 : N ≤ 64 := by have := L.out.cur.good.ok.room; omega
    have HN := Lib.hid hN
    clear hN
    go_wp2_with fail
    go_loopg [11] N (fun g s11 wr => ∃ (D Q : List Int) (q off cap : Nat), s11 = .slice (some ⟨q, off, none⟩) Q.length cap ∧ D.length + g = N ∧ Bfs T D Q ∧ LvB wc wr rb (D.flatMap (kidsOf T)) Q q off cap)
    case atStart => exact ⟨[], [1], _, _, _, rfl, by simp, B0.out.2, B0.out.1⟩
    case round =>
      obtain ⟨D, Q, q, off, cp, rfl, hDg, hbf, hlb⟩ := hrel
      have hfu := Bfs.fuel L.out.cur.good.ok hbf
      rw [HN.out] at hfu
      obtain ⟨wy, hwy⟩ : ∃ wy : World, wy = wr := ⟨_, rfl⟩
      subst hwy
      cases Q with
      | nil =>
        have F := Lib.hid (And.intro hbf hlb)
        clear hbf hlb hfu
        simp only [List.length_nil] at *
        go_upto_block 7 with (fail)
        go_wp2_with fail
        go_loopg [19] 99 (fun g s19 wr => ∃ n : Nat, s19 = .int .i64 n ∧ n + g = 100 ∧ 1 ≤ n ∧ Keep wy wr (fun _ => False))
        case atStart => exact ⟨1, rfl, by omega, by omega, Keep.refl _ _⟩
        case round =>
          obtain ⟨n, rfl, hn, hn1, hk⟩ := hrel
          obtain ⟨wv, hwv⟩ : ∃ wv : World, wv = wr := ⟨_, rfl⟩
          subst hwv
          have C := Lib.hid (L.out.cur.step (F.out.2.keep.aside hk))
          have K := Lib.hid hk
          by_cases hlt : (n : Int) < 100
          · obtain ⟨⟨v0, v1, v2, v3, v4, v5, v6⟩, hsv, hlk⟩ := Bfs.tells L.out.cur.good.ok F.out.1 L.out.hd (n : Int)
            have ar := ((F.out.2.step hk).arr).cell (n := (n : Int)) (by omega) (by omega)
            have ah := (L.out.arr.keep (F.out.2.keep.aside hk) (fun q => q)).cell (n := (n : Int)) (by omega) (by omega)
            simp only [Int.toNat_natCast] at ar ah
            generalize reachOf (D.flatMap (kidsOf T)) (n : Int) = R at *
            generalize H (n : Int) = G at *
            simp only at hlk
            have HLK := Lib.hid hlk
            clear hk hlk
            obtain ⟨b, hb⟩ : ∃ b, decide (0 < R ∨ 0 < G) = b := ⟨_, rfl⟩
            rw [hb] at hsv
            have hsi := stat_p C.out (by decide) (n : Int) hsv
            simp only at hsi
            have HB := Lib.hid hb
            clear hsv hb
            go_upto_region 53 with (
              go_at_call 14
              refine (hsi _ (Keep.refl _ _)).mono ?_
              rintro e w5 ⟨rfl, k5⟩
              have k6 := k5.trans (Keep.alloc w5 (.cells #[.int .i64 v0, .int .i64 v1, .int .i64 v2, .int .i64 v3, .int .i64 v4, .int .i64 v5, .int .i64 v6] 28) (fun _ => False)) (fun _ q => q.elim)
              have hbx := heap_alloc_eq w5 (.cells #[.int .i64 v0, .int .i64 v1, .int .i64 v2, .int .i64 v3, .int .i64 v4, .int .i64 v5, .int .i64 v6] 28)
              have x1 := cell_blk hbx 1
              have x5 := cell_blk hbx 5
              simp only [List.getElem?_toArray, List.getElem?_cons_zero, List.getElem?_cons_succ] at x1 x5
              have ar6 := k6.cell ar (fun q => q)
              have ah6 := k6.cell ah (fun q => q)
              have K6 := Lib.hid (K.out.aside k6)
              clear hsi k5 k6 hbx ar ah)
            have gz : ((0 : Int) ≤ (n : Int)) := by omega
            have gy : ((n : Int)).toNat = n := by omega
            by_cases hR : 0 < R
            · obtain rfl : b = true := by rw [← HB.out]; exact decide_eq_true (.inl hR)
              have f1 : decide (R > 0) = true := decide_eq_true hR
              have f1' : decide (0 < R) = true := decide_eq_true hR
              clear hR
              by_cases hv : v1 = 2
              · have f2 : (v1 == 2) = true := by simpa using hv
                have f3 : (v5 != R) = false := by rw [HLK.out hv]; simp
                clear hv
                go_quiet (fail)
                go_wp2
                go_roundg (99 - n)
                case measure => omega
                case rel => exact ⟨n + 1, by go_num, by omega, by omega, K6.out.trans (drewN_keep _ (fun _ => False) _) (fun _ q => q.elim)⟩
              · have f2 : (v1 == 2) = false := by simpa using hv
                clear hv
                go_quiet (fail)
                go_wp2
                go_roundg (99 - n)
                case measure => omega
                case rel => exact ⟨n + 1, by go_num, by omega, by omega, K6.out.trans (drewN_keep _ (fun _ => False) _) (fun _ q => q.elim)⟩
            · have f1 : decide (R > 0) = false := decide_eq_false hR
              have f1' : decide (0 < R) = false := decide_eq_false hR
              by_cases hG : 0 < G
              · obtain rfl : b = true := by rw [← HB.out]; exact decide_eq_true (.inr hG)
                have f4 : decide (G > 0) = true := decide_eq_true hG
                have f4' : decide (0 < G) = true := decide_eq_true hG
                clear hR hG
                by_cases hv : v1 = 2
                · have f2 : (v1 == 2) = true := by simpa using hv
                  have f3 : (v5 != R) = false := by rw [HLK.out hv]; simp
                  clear hv
                  go_quiet (fail)
                  go_wp2
                  go_roundg (99 - n)
                  case measure => omega
                  case rel => exact ⟨n + 1, by go_num, by omega, by omega, K6.out.trans (drewN_keep _ (fun _ => False) _) (fun _ q => q.elim)⟩
                · have f2 : (v1 == 2) = false := by simpa using hv
                  clear hv
                  go_quiet (fail)
                  go_wp2
                  go_roundg (99 - n)
                  case measure => omega
                  case rel => exact ⟨n + 1, by go_num, by omega, by omega, K6.out.trans (drewN_keep _ (fun _ => False) _) (fun _ q => q.elim)⟩
              · obtain rfl : b = false := by rw [← HB.out]; exact decide_eq_false (fun q => q.elim hR hG)
                have f4 : decide (G > 0) = false := decide_eq_false hG
                have f4' : decide (0 < G) = false := decide_eq_false hG
                clear hR hG
                go_quiet (fail)
                go_wp2
                go_roundg (99 - n)
                case measure => omega
                case rel => exact ⟨n + 1, by go_num, by omega, by omega, K6.out.trans (drewN_keep _ (fun _ => False) _) (fun _ q => q.elim)⟩
          · have hK := tknown_c wv
            clear hk
            go_wp2_with (
              go_at_call 16
              refine hK.mono ?_
              rintro e' wk ⟨rfl, kk⟩
              have CK := Lib.hid (C.out.step kk)
              clear hK kk)
            go_ret
            exact ⟨rfl, CK.out.below⟩
      | cons d Q =>
        have hq0 := hlb.que.cell 0 (.int .i64 d) rfl
        have hle := hlb.que.le
        have htop := hlb.que.top
        simp only [List.map_cons, List.length_cons, List.length_map] at hle hfu ⊢
        unfold maxLen at htop
        rw [Nat.add_zero] at hq0
        have F := Lib.hid (And.intro hbf.enter hlb)
        clear hbf hlb
        have hQ64 : Q.length ≤ 64 := by omega
        generalize hql : Q.length = nq at *
        have HQ := Lib.hid hql
        clear hql
        obtain ⟨x, hxd, hxa, -⟩ := isDir_mem (F.out.1.dirs d (by simp))
        obtain ⟨o2, ho2, hlb2⟩ := F.out.2.popped
        have hnm := fun w' (K : Keep wy w' (fun _ => False)) => tnames_c ((L.out.cur.step F.out.2.keep).step K).tab ((L.out.cur.step F.out.2.keep).small.mono (by decide)) d
        have hna : T.namesAt d = sortedN x.names := by unfold TreeV.namesAt; rw [hxd]
        have hnl := sortedN_len x.names
        have hn6 := (L.out.cur.small.node hxa).2.2
        rw [hna, hnl] at hnm
        have hkl : (kidsOf T d).length = x.names.length := by rw [kids_dir hxd, List.length_map, hnl]
        have hnn : x.names.length ≤ 181 := by omega
        generalize hnn2 : x.names.length = nn at *
        have X := Lib.hid (And.intro hxd (And.intro hxa (And.intro hnl (And.intro hkl hlb2))))
        clear hxd hxa hna hnl hn6 hnn2 hkl hlb2
        go_upto_region 36 with (fail)
        clear ho2 hq0
        go_upto_block 5 with (
          go_at_call 18
          refine (hnm _ (Keep.refl _ _)).mono ?_
          rintro e wn ⟨vn, rfl, r1, r2, r3⟩
          obtain ⟨na, nc, rfl, -⟩ := rows_val2 r1
          have hlvn : LvN wn na nn nc (sortedN x.names) rb q := ⟨ListIn.of_own r1, fun b z => by
            have y1 := r3 b z
            have y2 := F.out.2.arr.lt
            have y3 := F.out.2.que.lt
            refine ⟨by omega, by omega, ?_⟩
            rcases rows_val r1 with ⟨e, _⟩ | ⟨g, cap, e, _, e5, e6⟩
            · rw [e] at z; simp [Value.ownBlock] at z
            · rw [e5] at z; cases z; exact e6⟩
          have NN := Lib.hid (And.intro r2 hlvn)
          clear hnm r1 r2 r3 hlvn)
        go_wp2_with fail
        go_loopg [11, 14] nn (fun g s11 s14 wr => ∃ (k : Nat) (Q2 : List Int) (q2 off2 cap2 : Nat), s14 = .int .i64 k ∧ s11 = .slice (some ⟨q2, off2, none⟩) Q2.length cap2 ∧ k + g = nn ∧ BfsIn T D d Q2 k ∧ LvB wc wr rb (D.flatMap (kidsOf T) ++ (kidsOf T d).take k) Q2 q2 off2 cap2 ∧ LvN wr na nn nc (sortedN x.names) rb q2)
        case atStart => exact ⟨0, Q, q, o2, cp - 1, rfl, by rw [HQ.out], by omega, F.out.1, by rw [List.take_zero, List.append_nil]; exact X.out.2.2.2.2.step NN.out.1, NN.out.2⟩
        case round =>
          obtain ⟨k, Q2, q2, off2, cap2, rfl, rfl, hkn, hbi, hlb3, hln3⟩ := hrel
          obtain ⟨wv, hwv⟩ : ∃ wv : World, wv = wr := ⟨_, rfl⟩
          subst hwv
          have hb64 := hbi.len
          rw [HN.out] at hb64
          generalize hq2l : Q2.length = n2 at *
          have HQ2 := Lib.hid hq2l
          clear hq2l
          by_cases hkl : k < nn
          · have hkl' : (k : Int) < (nn : Int) := by omega
            obtain ⟨bn, on, rfl, -, fn⟩ := hln3.list.some (by rw [List.length_map, X.out.2.2.1]; omega)
            obtain ⟨st, hst⟩ : ∃ st, (sortedN x.names)[k]? = some st := ⟨_, List.getElem?_eq_getElem (by rw [X.out.2.2.1]; exact hkl)⟩
            obtain ⟨n, ⟨v0, v1, v2, v3, v4, v5, v6⟩, hc1, hc2, hc3, hc4, hc5, hc6, hc7, hc8, hc9, hc10, hc11⟩ := live_child L.out.cur.good.ok L.out.cur.small hbi X.out.1 hst
            have cn := fn k _ (mapGet hst)
            have CV := Lib.hid (L.out.cur.step hlb3.keep)
            have hfi := tfind_c CV.out.tab d st
            rw [hc3] at hfi
            have ac := hlb3.arr.cell (n := n) (by omega) (by omega)
            have af := hlb3.arr.free n.toNat
            have hb4 := hlb3.count (n := n) (by omega) (by omega)
            have hn4 := hln3.count n.toNat (.int .i64 (reachOf (D.flatMap (kidsOf T) ++ (kidsOf T d).take k) n + 1))
            have hP : D.flatMap (kidsOf T) ++ (kidsOf T d).take k ++ [n] = D.flatMap (kidsOf T) ++ (kidsOf T d).take (k + 1) := by rw [List.take_add_one, hc2]; simp
            have hr1 := reach_snoc (D.flatMap (kidsOf T) ++ (kidsOf T d).take k) n n
            rw [if_pos rfl] at hr1
            rw [hP] at hb4 hr1
            generalize hR : reachOf (D.flatMap (kidsOf T) ++ (kidsOf T d).take k) n = R at *
            have C4 := Lib.hid (L.out.cur.step hb4.keep)
            have hsi := stat_p C4.out (by decide) n hc4
            simp only at hc5 hsi
            have B4 := Lib.hid (And.intro hb4 (And.intro hn4 (And.intro hbi hlb3)))
            have HC := Lib.hid (And.intro hc2 (And.intro hc5 (And.intro hc8 (And.intro hc11 hr1))))
            clear fn hst hbi hlb3 hln3 hb4 hn4 hP hr1 hc1 hc2 hc3 hc4 hc5 hc8 hc11 hR
            go_upto_region 45 with (first
              | (go_at_call 13
                 refine hfi.mono ?_
                 rintro e w4 ⟨rfl, rfl⟩
                 clear hfi)
              | (go_at_call 14
                 refine (hsi _ (Keep.refl _ _)).mono ?_
                 rintro e w5 ⟨rfl, k5⟩
                 have k6 := k5.trans (Keep.alloc w5 (.cells #[.int .i64 v0, .int .i64 v1, .int .i64 v2, .int .i64 v3, .int .i64 v4, .int .i64 v5, .int .i64 v6] 28) (fun _ => False)) (fun _ q => q.elim)
                 have hbx := heap_alloc_eq w5 (.cells #[.int .i64 v0, .int .i64 v1, .int .i64 v2, .int .i64 v3, .int .i64 v4, .int .i64 v5, .int .i64 v6] 28)
                 have x1 := cell_blk hbx 1
                 simp only [List.getElem?_toArray, List.getElem?_cons_zero, List.getElem?_cons_succ] at x1
                 have r6 := (B4.out.1.step k6).arr.cell (n := n) (by omega) (by omega)
                 rw [HC.out.2.2.2.2] at r6
                 have B6 := Lib.hid (And.intro (B4.out.1.step k6) (B4.out.2.1.step k6))
                 clear hsi k5 k6 hbx))
            by_cases hv : v1 = 1
            · have e1 : (v1 == 1) = true := by simpa using hv
              have hdir := HC.out.2.1.1 hv
              have hui := tup_c (L.out.cur.step B6.out.1.keep).tab n
              rw [HC.out.2.2.1 hdir] at hui
              rw [HC.out.2.2.2.1 hdir] at r6
              simp only [Int.zero_add] at r6
              have gd : (d != d) = false := by simp
              have hh0 := B6.out.1.keep.size
              have HD := Lib.hid hdir
              obtain ⟨ti, ti1, ti2, ti3, ti4⟩ := int_infoL
              have TI := Lib.hid (And.intro ti1 (And.intro ti2 (And.intro ti3 ti4)))
              have hz1 : (Value.int .i64 0).cells.size = 1 := rfl
              clear hv hdir ti1 ti2 ti3 ti4
              go_wp2_with (first
                | (go_at_call 25
                   refine hui.mono ?_
                   rintro e w7 ⟨rfl, rfl⟩
                   clear hui)
                | (at_builtin
                   refine law_que rfl _ _ _ rfl Try.underlying51 TI.out.1 TI.out.2.1 TI.out.2.2.1 TI.out.2.2.2 hz1 B6.out.1.que (by rw [List.length_map]; exact HQ2.out) rfl (.int .i64 n) rfl (by first | rfl | simp) rfl (by omega) hh0 ?_
                   intro q8 off8 cap8 w8 hq8 k8 hn8
                   have B8 := Lib.hid (And.intro (B6.out.1.pushed hq8 k8 hn8) (B6.out.2.pushed k8 hn8))
                   clear hq8 k8 hn8))
              go_roundg (nn - (k + 1))
              case measure => omega
              case rel => exact ⟨k + 1, Q2 ++ [n], q8, off8, cap8, by go_num, by rw [List.length_append, HQ2.out]; rfl, by omega, Bfs.stepDir L.out.cur.good.ok B4.out.2.2.1 HC.out.1 HD.out (by omega), B8.out.1, B8.out.2⟩
            · have e1 : (v1 == 1) = false := by simpa using hv
              have hdir : T.isDir n = false := by
                cases q : T.isDir n with
                | false => rfl
                | true => exact absurd (HC.out.2.1.2 q) hv
              have HD := Lib.hid hdir
              clear hv hdir
              go_wp2
              go_roundg (nn - (k + 1))
              case measure => omega
              case rel => exact ⟨k + 1, Q2, q2, off2, cap2, by go_num, by rw [HQ2.out], by omega, Bfs.stepLeaf B4.out.2.2.1 HC.out.1 HD.out, B6.out.1, B6.out.2⟩
          · have hkl' : ¬ (k : Int) < (nn : Int) := by omega
            obtain rfl : k = nn := by omega
            have hP : D.flatMap (kidsOf T) ++ (kidsOf T d).take k = (D ++ [d]).flatMap (kidsOf T) := by
              rw [List.take_of_length_le (by rw [X.out.2.2.2.1]; exact Nat.le_refl _)]
              simp [List.flatMap_append]
            rw [hP] at hlb3
            have E := Lib.hid (And.intro (Bfs.leave hbi (by rw [X.out.2.2.2.1]; exact Nat.le_refl _)) hlb3)
            clear hbi hlb3 hln3 hP
            go_wp2
            go_roundg (N - (D.length + 1))
            case measure => omega
            case rel => exact ⟨D ++ [d], Q2, q2, off2, cap2, by rw [HQ2.out], by rw [List.length_append]; simp; omega, E.out.1, E.out.2⟩

end Go.Proofs.Ytnjfcedkfobbcaa
