/-
  ChainPlays: a table answers as the document says.
-/
import Derived.Test.YtkdpkmlmkholmaaBoth
import Derived.Test.YtkdpkmlmkholmaaChainLooks0
import Derived.Test.YtkdpkmlmkholmaaChainB
import Derived.Test.YtkdpkmlmkholmaaRKeys
import Derived.Test.YtkdpkmlmkholmaaSameS
import Derived.Test.YtkdpkmlmkholmaaArgs
import Derived.Deep.CutRange
import Derived.Deep.CutBlock
import Derived.Deep.RegionHeld3
import Derived.StillTailTactics
import Derived.Deep.DeepCutAuto
namespace Go.Proofs.Ytkdpkmlmkholmaa
open Go Go.RowKit
set_option linter.unusedSectionVars false
set_option linter.unusedSimpArgs false
set_option linter.unusedVariables false

section
variable {w0 wa : World} {tb rb m lb xb : Nat} {S R : Nat → Prop} {T T2 : List Pair} {k u0 : Int} {s0 : ByteArray}

theorem put_both (hB : Both w0 wa tb rb m S R T T2) (hX : Box wa S R lb xb k s0 u0) (s : ByteArray) (u : Int) (hs : s.size ≤ 9223372036854775807) (w' : World) (K : Keep wa w' (fun _ => False)) :
    Calls Try.prog 12 #[.pointer (some ⟨tb, 0, none⟩), .string s, .int .i64 u] w' fun e w4 => e = .returned (.int .i64 (putT T s u).2) ∧ ∃ S', Both w0 w4 tb rb m S' R (putT T s u).1 T2 ∧ Box w4 S' R lb xb k s0 u0 := by
  refine (put_c (hB.tab.keep K (fun _ _ q => q)) s u hs).mono ?_
  rintro e w4 ⟨rfl, S', hT', hK', _⟩
  exact ⟨rfl, S', (hB.aside K (fun _ q => q.elim)).chain hT' hK', (hX.aside K).chain hK'⟩

theorem rput_both (hB : Both w0 wa tb rb m S R T T2) (hX : Box wa S R lb xb k s0 u0) (s : ByteArray) (u : Int) (hs : s.size ≤ 9223372036854775807) (w' : World) (K : Keep wa w' (fun _ => False)) :
    Calls Try.prog 13 #[.pointer (some ⟨rb, 0, none⟩), .string s, .int .i64 u] w' fun e w4 => e = .returned (.int .i64 (putT T2 s u).2) ∧ ∃ R', Both w0 w4 tb rb m S R' T (putT T2 s u).1 ∧ Box w4 S R' lb xb k s0 u0 := by
  refine (rput_c (hB.ref.keep K (fun _ _ q => q)) s u).mono ?_
  rintro e w4 ⟨rfl, S', hT', hK'⟩
  exact ⟨rfl, S', (hB.aside K (fun _ q => q.elim)).refs hT' hK' (sz_put hB.sz hs), (hX.aside K).refs hK'⟩
end

set_option maxRecDepth 100000 in
set_option maxHeartbeats 8000000 in
theorem plays_walk (n : Int) (a1 : Option Addr) (l1 c1 : Nat) (a2 : Option Addr) (l2 c2 : Nat) (ks : List ByteArray) (w : World) (hn : (Lit.int .i64 n).wf = true) (h1 : StructsIs asks w a1 l1 c1) (h2 : StrsIs w a2 l2 c2 ks) :
    Calls Try.prog 5 #[.int .i64 n, .slice a1 l1 c1, .slice a2 l2 c2] w fun r w' => r = .returned (.bool true) ∧ Below w.heap.size w w' := by
  have H := Lib.hid (And.intro h1 h2)
  have hl1 : l1 ≤ 9223372036854775807 := by have := h1.cap; have e := this.1; have e2 := this.2; unfold maxLen at e2; omega
  have hl2 : l2 ≤ 9223372036854775807 := by have e2 := h2.2.1; unfold maxLen at e2; omega
  have HK := Lib.hid h2.1
  clear h1 h2 hn
  go_enter Try.func5, Try.ntmps5
  go_upto_block 0 with (fail)
  go_cut [7] from 21 to 41 (fun s7 wx => Keep w wx (fun _ => False))
  case first =>
    go_wp2_with fail
    go_loopg [7] 20 (fun g s7 wr => ∃ j : Nat, j ≤ 20 ∧ g = 20 - j ∧ s7 = .int .i64 j ∧ Keep w wr (fun _ => False))
    case atStart => exact ⟨0, by omega, rfl, rfl, Keep.refl _ _⟩
    case round =>
      obtain ⟨j, hj, rfl, rfl, hK⟩ := hrel
      have K := Lib.hid hK
      clear hK
      by_cases hlt : j < l2
      · by_cases hlt2 : j < 20
        · have g1 : (j : Int) < (l2 : Int) := by omega
          have g2 : (j : Int) < 20 := by omega
          obtain ⟨x, hx⟩ : ∃ x, ks[j]? = some x := ⟨_, List.getElem?_eq_getElem (by rw [HK.out]; exact hlt)⟩
          obtain ⟨b, off, rfl, _, hf⟩ := H.out.2.2.2.1.some (by rw [List.length_map, HK.out]; omega)
          have c1 : wr.cell? ⟨b, off + j, none⟩ = some (.string x) := K.out.cell (hf j _ (mapGet hx)) (fun q => q)
          have hsz : x.size ≤ 9223372036854775807 := H.out.2.2.2.2 x (List.mem_of_getElem? hx)
          have hh := fun w => hash_c x w hsz
          have hr := fun w => ref_hash_c x w hsz
          generalize hashOf x = HX at *
          have gg : (HX != HX) = false := by simp
          clear hf hx
          go_wp2
          go_quiet (first
            | (go_at_call 24; exact Calls.quiet_of_same ((hh _).mono fun e w1 q => ⟨q.1, q.2.symm⟩))
            | (go_at_call 14; exact Calls.quiet_of_same ((hr _).mono fun e w1 q => ⟨q.1, q.2.symm⟩)))
          go_wp2
          go_roundg (20 - (j + 1))
          case measure => omega
          case rel => exact ⟨j + 1, by omega, rfl, rfl, K.out.trans (drewN_keep _ (fun _ => False) _) (fun _ q => q.elim)⟩
        · have g1 : (j : Int) < (l2 : Int) := by omega
          have g2 : ¬ (j : Int) < 20 := by omega
          go_wp2
          go_meet
          case rel => exact K.out
      · have g1 : ¬ (j : Int) < (l2 : Int) := by omega
        go_wp2
        go_meet
        case rel => exact K.out
  case rest =>
    have K1 := Lib.hid hcut
    clear hcut
    by_cases hr : n < 1 ∨ 64 < n
    · have hbad := new_bad wc n hr
      have hr2 : n < 1 ∨ (¬ n < 1 ∧ 64 < n) := by omega
      clear hr
      rcases hr2 with g1 | ⟨g1, g2⟩
      all_goals
        go_wp2_with (first
          | (go_at_call 8
             refine hbad.mono ?_
             rintro e w1 ⟨rfl, rfl⟩
             clear hbad)
          | (go_at_call 21
             refine (known_c _).mono ?_
             rintro e w2 ⟨rfl, hk2⟩
             have M2 := Lib.hid hk2
             clear hk2))
        go_ret
        exact ⟨rfl, (K1.out.trans M2.out (fun _ q => q.elim)).below (Nat.le_refl _) (fun _ q => q.elim)⟩
    · obtain ⟨m, rfl⟩ : ∃ m : Nat, n = (m : Int) := ⟨n.toNat, by omega⟩
      have g1 : ¬ (m : Int) < 1 := by omega
      have g2 : ¬ 64 < (m : Int) := by omega
      have hnew := new_c wc m (by omega) (by omega)
      clear hr
      go_upto_block 2 with (first
        | (go_at_call 8
           refine hnew.mono ?_
           rintro e w2 ⟨tb, S1, rfl, hT1, hK1⟩
           have B1 := Lib.hid (And.intro hT1 hK1)
           clear hT1 hK1 hnew
           have hrn := rnew_c w2)
        | (go_at_call 9
           refine hrn.mono ?_
           rintro e w3 ⟨rb, R1, rfl, hR1, hK2, hF⟩
           have B2 := Lib.hid (And.intro hR1 (And.intro hK2 hF))
           clear hR1 hK2 hrn hF))
      go_cut [] from 11 to 152 (fun wx => ∃ S R T, Both w wx tb rb m S R T T)
      case first =>
        go_wp2_with fail
        go_loopg [11] 150 (fun g s11 wr => ∃ (j : Nat) (S R : Nat → Prop) (T : List Pair), j ≤ 150 ∧ g = 150 - j ∧ s11 = .int .i64 j ∧ Both w wr tb rb m S R T T)
        case atStart =>
          obtain ⟨hT1, hK1⟩ := B1.out
          obtain ⟨hR1, hK2, hF⟩ := B2.out
          have hsz := hK1.keep.size
          have hsz0 := K1.out.size
          refine ⟨0, S1, R1, [], by omega, rfl, rfl, ⟨(K1.out.trans hK1.keep (fun _ q => q.elim)).trans hK2.keep (fun _ q => q.elim), hT1.keep hK2.keep (fun _ _ q => q), hR1, fun b q z => ?_, fun b q => (hK1.new b q).elim (fun z => z.elim) (fun z => by omega), fun b q => by have := hF b q; omega, by simp⟩⟩
          have := hT1.lt b q
          have := hF b z
          omega
        case round =>
          obtain ⟨j, S, R, T, hj, rfl, rfl, hB⟩ := hrel
          have B := Lib.hid hB
          clear hB
          by_cases hlt : j < l1
          · by_cases hlt2 : j < 150
            · have g3 : (j : Int) < (l1 : Int) := by omega
              have g4 : (j : Int) < 150 := by omega
              obtain ⟨b, off, k, s, u, rfl, hA9⟩ := ask_at H.out.1 hlt
              obtain ⟨c0, c1', c2, hsz⟩ := hA9.keep B.out.keep
              clear hA9
              obtain ⟨wo, rfl⟩ : ∃ wo : World, wo = wr := ⟨_, rfl⟩
              go_upto_block 4 with (fail)
              have hbox0 : Box (wo.alloc (.cells #[.int .i64 k, .string s, .int .i64 u] 31)) S R (wo.heap.size + 1) wo.heap.size k s u := by
                refine ⟨heap_alloc_eq _ _, fun q => ?_, fun q => ?_, by omega⟩
                · have := B.out.tab.lt _ q; omega
                · have := B.out.ref.lt _ q; omega
              have X1 := Lib.hid hbox0
              have L1 := Lib.hid (B.out.aside (Keep.alloc wo (.cells #[.int .i64 k, .string s, .int .i64 u] 31) (fun _ => False)) (fun _ q => q.elim))
              have e0 := cell_blk hbox0.box 0
              have e1 := cell_blk hbox0.box 1
              have e6 := cell_blk hbox0.box 2
              clear hbox0 c0 c1' c2
              obtain ⟨wa, hwa⟩ : ∃ wa, wa = wo.alloc (.cells #[.int .i64 k, .string s, .int .i64 u] 31) := ⟨_, rfl⟩
              rw [← hwa] at e0 e1 e6 X1 L1 ⊢
              clear hwa
              simp only [List.getElem?_toArray, List.getElem?_cons_zero, List.getElem?_cons_succ] at e0 e1 e6
              go_cut [13, 14, 15, 16] (fun s13 s14 s15 s16 wx => ∃ (S3 R3 : Nat → Prop) (T3 : List Pair), Both w wx tb rb m S3 R3 T3 T3 ∧ Box wx S3 R3 (wo.heap.size + 1) wo.heap.size k s u)
              case first =>
                by_cases hk1 : k = 1
                · subst hk1
                  have hpt := put_both L1.out X1.out s u hsz
                  generalize hpr : (putT T s u).2 = pr at *
                  have HPR := Lib.hid hpr
                  clear hpr
                  have h0' : (pr != pr) = false := by simp
                  go_wp2
                  go_region_held3 (fun w' => w'.cell? ⟨wo.heap.size, 1, none⟩ = some (.string s) ∧ w'.cell? ⟨wo.heap.size, 2, none⟩ = some (.int .i64 u)) (go_keep) (first
                    | (go_at_call 12
                       refine (hpt _ ?_).mono ?_
                       · first | exact Keep.refl _ _ | exact Keep.drew _ _ | exact drewN_keep _ _ _
                       rintro e w4 ⟨rfl, S', hB4, hX4⟩
                       have N1 := Lib.hid (And.intro hB4 hX4)
                       have i1 := cell_blk N1.out.2.box 1
                       have i2 := cell_blk N1.out.2.box 2
                       simp only [List.getElem?_toArray, List.getElem?_cons_zero, List.getElem?_cons_succ] at i1 i2
                       have hrp := rput_both N1.out.1 N1.out.2 s u hsz
                       rw [HPR.out] at hrp
                       clear hpt hB4 hX4)
                    | (go_at_call 13
                       refine (hrp _ ?_).mono ?_
                       · first | exact Keep.refl _ _ | exact Keep.drew _ _ | exact drewN_keep _ _ _
                       rintro e w5 ⟨rfl, R', hB5, hX5⟩
                       have N2 := Lib.hid (And.intro hB5 hX5)
                       have i4 := cell_blk N2.out.2.box 1
                       have i5 := cell_blk N2.out.2.box 2
                       simp only [List.getElem?_toArray, List.getElem?_cons_zero, List.getElem?_cons_succ] at i4 i5
                       clear hrp hB5 hX5))
                  all_goals go_wp2
                  go_meet
                  case rel => exact ⟨_, _, _, N2.out.1, N2.out.2⟩
                · have g1 : (k == 1) = false := by simpa using hk1
                  by_cases hk2 : k = 2
                  · subst hk2
                    have hdr := drop_c L1.out.tab s hsz
                    generalize hpr : (dropT T s).2 = pr at *
                    have HPR := Lib.hid hpr
                    clear hpr
                    obtain ⟨pv, pe⟩ := pr
                    have h0' : (pv != pv) = false := by simp
                    have h1' : (pe != pe) = false := by simp
                    go_wp2_with (first
                      | (go_at_call 10
                         refine hdr.mono ?_
                         rintro e w4 ⟨rfl, S', hT', hK', hSeg⟩
                         have N1 := Lib.hid (show Both w w4 tb rb m S' R (dropT T s).1 T ∧ Box w4 S' R (wo.heap.size + 1) wo.heap.size 2 s u from ⟨L1.out.chain hT' hK', X1.out.chain hK'⟩)
                         have i1 := cell_blk N1.out.2.box 1
                         simp only [List.getElem?_toArray, List.getElem?_cons_zero, List.getElem?_cons_succ] at i1
                         have hrd := rdrop_c N1.out.1.ref s
                         rw [HPR.out] at hrd
                         clear hdr hT' hK' hSeg)
                      | (go_at_call 11
                         refine hrd.mono ?_
                         rintro e w5 ⟨rfl, R', hR', hK'⟩
                         have N2 := Lib.hid (And.intro (N1.out.1.refs hR' hK' (sz_drop B.out.tab.nodup N1.out.1.sz)) (N1.out.2.refs hK'))
                         clear hrd hR' hK'))
                    go_meet
                    case rel => exact ⟨_, _, _, N2.out.1, N2.out.2⟩
                  · have g2 : (k == 2) = false := by simpa using hk2
                    go_wp2
                    go_meet
                    case rel => exact ⟨_, _, _, L1.out, X1.out⟩
              case rest =>
                obtain ⟨S3, R3, T3, hB3, hX3⟩ := hcut
                have N3 := Lib.hid (And.intro hB3 hX3)
                have j1 := cell_blk hX3.box 1
                simp only [List.getElem?_toArray, List.getElem?_cons_zero, List.getElem?_cons_succ] at j1
                have hgt := get_c hB3.tab s hsz
                generalize hpr : aget T3 s = pr at *
                have HPR := Lib.hid hpr
                clear hpr hB3 hX3 e0 e1 e6
                have h0' : (pr.getD 0 != pr.getD 0) = false := by simp
                have h1' : (pr.isSome != pr.isSome) = false := by simp
                go_wp2_with (first
                  | (go_at_call 25
                     refine hgt.mono ?_
                     rintro e w6 ⟨rfl, hk6⟩
                     have N6 := Lib.hid (And.intro (N3.out.1.aside hk6 (fun _ q => q.elim)) (N3.out.2.aside hk6))
                     have j2 := cell_blk N6.out.2.box 1
                     simp only [List.getElem?_toArray, List.getElem?_cons_zero, List.getElem?_cons_succ] at j2
                     have hrg := rget_c N6.out.1.ref s
                     rw [HPR.out] at hrg
                     clear hgt hk6)
                  | (go_at_call 17
                     refine hrg.mono ?_
                     rintro e w7 ⟨rfl, q7, hw7⟩
                     have N7 := Lib.hid (show Both w w7 tb rb m S3 R3 T3 T3 from by rw [hw7]; exact N6.out.1.drewN q7)
                     have hln := len_c N7.out.tab
                     have hrl := rlen_c N7.out.ref
                     clear hrg hw7)
                  | (go_at_call 22
                     refine hln.mono ?_
                     rintro e w8 ⟨rfl, hw8⟩
                     obtain rfl : w7 = w8 := hw8.symm
                     clear hln)
                  | (go_at_call 26
                     refine hrl.mono ?_
                     rintro e w8 ⟨rfl, hw8⟩
                     obtain rfl : w7 = w8 := hw8.symm
                     clear hrl))
                go_roundg (150 - (j + 1))
                case measure => omega
                case rel => exact ⟨j + 1, S3, R3, T3, by omega, rfl, rfl, N7.out⟩
            · have g3 : (j : Int) < (l1 : Int) := by omega
              have g4 : ¬ (j : Int) < 150 := by omega
              go_wp2
              go_meet
              case rel => exact ⟨S, R, T, B.out⟩
          · have g3 : ¬ (j : Int) < (l1 : Int) := by omega
            go_wp2
            go_meet
            case rel => exact ⟨S, R, T, B.out⟩
      case rest =>
        obtain ⟨S, R, T, hB⟩ := hcut
        have B := Lib.hid hB
        have hk1 := keys_c hB.tab
        have hlen1 : ((sortS (T.map Prod.fst)).map Value.string).length = T.length := by rw [List.length_map, sortS_len, List.length_map]
        have HL := Lib.hid hlen1
        have hT64 := hB.tab.len
        clear hB hlen1
        go_wp2_with (first
          | (go_at_call 23
             refine hk1.mono ?_
             rintro e w9 ⟨v9, rfl, hM9⟩
             obtain ⟨a9, cap9, rfl⟩ := hM9.valn HL.out
             have hk2 := rkeys_c (B.out.ref.keep hM9.keep (fun _ _ z => z))
             have M9 := Lib.hid hM9
             clear hk1 hM9)
          | (go_at_call 28
             refine hk2.mono ?_
             rintro e w10 ⟨v10, rfl, hM10⟩
             obtain ⟨a10, cap10, rfl⟩ := hM10.valn HL.out
             have hsm := same_c (M9.out.aside hM10.keep).list hM10.list (by rw [sortS_len, List.length_map]; omega) (by rw [sortS_len, List.length_map]; omega)
             rw [decide_eq_true (rfl : sortS (T.map Prod.fst) = sortS (T.map Prod.fst))] at hsm
             have M10 := Lib.hid hM10
             clear hk2 hM10)
          | (go_at_call 27
             refine hsm.mono ?_
             rintro e w11 ⟨rfl, q11, hw11⟩
             have M11 := Lib.hid (show Keep w10 w11 (fun _ => False) from by rw [hw11]; exact drewN_keep _ _ _)
             clear hsm hw11)
          | (go_at_call 21
             refine (known_c _).mono ?_
             rintro e w12 ⟨rfl, hk12⟩
             have M12 := Lib.hid hk12
             clear hk12))
        go_ret
        refine ⟨rfl, ?_⟩
        exact ((((B.out.keep.trans M9.out.keep (fun _ q => q.elim)).trans M10.out.keep (fun _ q => q.elim)).trans M11.out (fun _ q => q.elim)).trans M12.out (fun _ q => q.elim)).below (Nat.le_refl _) (fun _ q => q.elim)

end Go.Proofs.Ytkdpkmlmkholmaa
