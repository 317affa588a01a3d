/-
  NameBack: the walk.
-/
import Derived.Test.YtlbekofkhjkniaaDoorNKnown
import Derived.Test.YtlbekofkhjkniaaDoorName4
import Derived.Test.YtlbekofkhjkniaaDoorArgs
import Derived.Test.YtlbekofkhjkniaaDoorWithin
import Derived.Deep.Cut
import Derived.Deep.CutRange
import Derived.Below
namespace Go.Proofs.YtlbekofkhjkniaaDoor
open Go Go.RowKit Go.Shelf
set_option linter.unusedSectionVars false
set_option linter.unusedSimpArgs false
set_option linter.unusedVariables false
attribute [local go_sem] Oper.semAt_some

abbrev ReadPs (s : ByteArray) (r1 r2 : Bool) (n : Nat) (xs : List Value) (e : Int) : Prop := ∀ U, Calls Tryd.prog 11 #[.string s] U fun r w' => ∃ sa cap, r = .returned (.tuple #[.agg #[.bool r1, .bool r2, .slice sa n cap], .int .i64 e]) ∧ w'.ownsRow 0 9 1 (.slice sa n cap) n xs ∧ Keep U w' (fun _ => False)

theorem readPs {l : Bl} {r1 r2 : Bool} {ps : List Bl} {e : Int} (h : readP l = ((r1, r2, ps), e)) {n : Nat} (hn : ps.length = n) : ReadPs (txB l) r1 r2 n (ps.map txV) e := fun U => by
  subst hn
  have hr := read_c l U
  rw [h] at hr
  refine hr.mono ?_
  rintro x w1 ⟨v, rfl, q1, q2⟩
  obtain ⟨sa, cap, rfl, -⟩ := rows_val2 q1
  exact ⟨sa, cap, rfl, q1, q2⟩

theorem strs_list {w : World} {v : Value} {ks : List ByteArray} (h : ListIn w v (ks.map Value.string)) : ListIn w v ((ks.map (·.data.toList)).map txV) := by
  rw [List.map_map]
  exact h

/-- The path on its way: block b holds it. -/
def BackI (w : World) (b : Nat) (root slash : Bool) (v : Value) (qs : List Bl) (U : World) : Prop :=
  Keep w U (fun _ => False) ∧ U.heap[b]? = some (.cells #[.bool root, .bool slash, v] 28 (0, 0)) ∧ U.ownsRow 0 9 1 v qs.length (qs.map txV) ∧ (∀ c, v.ownBlock = some c → b < c) ∧ (∀ p ∈ qs, okP p) ∧ qs.length ≤ 12

theorem BackI.push {w wr w8 : World} {b : Nat} {root slash : Bool} {v v8 : Value} {qs : List Bl} {y : Bl} (hI : BackI w b root slash v qs wr) (hb : w.heap.size ≤ b) (K8 : Keep wr w8 (fun c => v.ownBlock = some c)) {q3 : Nat} (hq : qs.length = q3)
    (h8 : w8.ownsRow 0 9 1 v8 (q3 + 1) (qs.map txV ++ [txV y])) (hf : ∀ c, v8.ownBlock = some c → v.ownBlock = some c ∨ wr.heap.size ≤ c) (hok : okP y) (hl : q3 < 12) : BackI w b root slash v8 (qs ++ [y]) (w8.setCell ⟨b, 2, none⟩ v8) := by
  subst hq
  obtain ⟨k, h1, h2, h3, h4, h5⟩ := hI
  have hlt := lt_of_blk h1
  have b8 := K8.get h1 (fun q => by have := h3 b q; omega)
  have ks := Keep.setCell w8 ⟨b, 2, none⟩ v8
  have own8 : ∀ c, v8.ownBlock = some c → b < c := fun c q => by
    rcases hf c q with z | z
    · exact h3 c z
    · omega
  refine ⟨(k.trans K8 (fun c q => .inr (by have := h3 c q; omega))).trans ks (fun c q => .inr (by have q' : c = b := q; omega)), heap_setCell_eq (off := 2) v8 b8, ?_, own8, ?_, ?_⟩
  · rw [List.length_append, List.length_singleton, List.map_append]
    exact rows_keep h8 ks (fun c q z => by have := own8 c q; have z' : c = b := z; omega)
  · intro p hp
    rcases List.mem_append.1 hp with q | q
    · exact h4 p q
    · rw [List.mem_singleton.1 q]; exact hok
  · rw [List.length_append, List.length_singleton]; omega

theorem back_facts {wr w4 w5 w6 : World} {root sl : Bool} {s5 s6 : Option Addr} {c9 c6 q3 : Nat} {xs : List Value} (K4 : Keep wr w4 (fun _ => False)) (N5 : w5.ownsRow 0 9 1 (.slice s5 q3 c9) q3 xs ∧ Keep w4 w5 (fun _ => False))
    (N6 : w6.ownsRow 0 9 1 (.slice s6 q3 c6) q3 xs ∧ Keep (w5.alloc (.cells #[.bool root, .bool sl, .slice s5 q3 c9] 28)) w6 (fun _ => False)) :
    ∃ W, w6.alloc (.cells #[.bool root, .bool sl, .slice s6 q3 c6] 28) = W ∧ Keep wr W (fun _ => False) ∧ W.cell? ⟨w5.heap.size, 0, none⟩ = some (.bool root) ∧ W.cell? ⟨w5.heap.size, 1, none⟩ = some (.bool sl) ∧ W.cell? ⟨w5.heap.size, 2, none⟩ = some (.slice s5 q3 c9) ∧
      W.cell? ⟨w6.heap.size, 0, none⟩ = some (.bool root) ∧ W.cell? ⟨w6.heap.size, 1, none⟩ = some (.bool sl) ∧ W.cell? ⟨w6.heap.size, 2, none⟩ = some (.slice s6 q3 c6) ∧ ListIn W (.slice s5 q3 c9) xs ∧ ListIn W (.slice s6 q3 c6) xs := by
  have k5 := Keep.alloc w5 (.cells #[.bool root, .bool sl, .slice s5 q3 c9] 28) (fun _ => False)
  have k6 := Keep.alloc w6 (.cells #[.bool root, .bool sl, .slice s6 q3 c6] 28) (fun _ => False)
  have b5 := heap_alloc_eq w5 (.cells #[.bool root, .bool sl, .slice s5 q3 c9] 28)
  have b6 := heap_alloc_eq w6 (.cells #[.bool root, .bool sl, .slice s6 q3 c6] 28)
  have kk := N6.2.trans k6 (fun _ q => q.elim)
  have b5' := kk.get b5 (fun q => q)
  refine ⟨_, rfl, ((K4.trans N5.2 (fun _ q => q.elim)).trans k5 (fun _ q => q.elim)).trans kk (fun _ q => q.elim), ?_, ?_, ?_, ?_, ?_, ?_, ((ListIn.of_own N5.1).aside k5).aside kk, (ListIn.of_own N6.1).aside k6⟩
  all_goals first | (rw [cell_blk b5']; rfl) | (rw [cell_blk b6]; rfl)

set_option maxRecDepth 100000 in
set_option maxHeartbeats 8000000 in
theorem back_walk (a : Option Addr) (n cap : Nat) (ks : List ByteArray) (root slash : Bool) (more : Int) (w : World) (h : StrsIs w a n cap ks) :
    Calls Tryd.prog 8 #[.slice a n cap, .bool root, .bool slash, .int .i64 more] w fun r w' => r = .returned (.bool true) ∧ Keep w w' (fun _ => False) := by
  have hw := fun U => within_c U more 0 5 (by omega) (by omega) (by omega)
  have hL := strs_list h.2.2.1
  have hn : (ks.map (·.data.toList)).length = n := by rw [List.length_map]; exact h.1
  have hmx : n ≤ 9223372036854775807 := by have e2 := h.2.1; unfold maxLen at e2; omega
  generalize ks.map (·.data.toList) = ls at *
  have HL := Lib.hid (And.intro hL hn)
  clear hL hn h ks
  go_enter Tryd.func8, Tryd.ntmps8
  go_upto_if 21 with (fail)
  obtain ⟨W, hW⟩ : ∃ W, W = w.alloc (.cells #[.bool root, .bool slash, .slice none 0 0] 28) := ⟨_, rfl⟩
  have hI : BackI w w.heap.size root slash (.slice none 0 0) [] W := by
    rw [hW]
    exact ⟨Keep.alloc _ _ _, heap_alloc_eq w _, rows_nil _ _ _, fun c q => by simp [Value.ownBlock] at q, fun p q => by simp at q, by simp⟩
  rw [← hW]
  have HI0 := Lib.hid hI
  clear hI hW
  go_cut [10] from 18 (fun s wc => s = .string (txB (headS root)) ∧ W = wc)
  case first =>
    cases root
    all_goals
      go_wp2
      go_meet
      case rel => exact ⟨rfl, rfl⟩
  case rest =>
    obtain ⟨rfl, rfl⟩ := hcut
    go_wp2_with (
      go_at_call 13
      refine (hw _).mono ?_
      rintro e w1 ⟨q, hq0, hq1, rfl, rfl⟩
      obtain ⟨M, rfl⟩ : ∃ N : Nat, q = N := ⟨q.toNat, by omega⟩)
    go_loopg [11, 12] M (fun g s11 s12 wr => ∃ (z : Int) (j : Nat), s12 = .int .i64 z ∧ z = (j : Int) ∧ j = g ∧ j ≤ M ∧ s11 = .string (txB (barP (M - j))) ∧ wr = W)
    case atStart => exact ⟨_, _, rfl, rfl, rfl, Nat.le_refl _, by rw [Nat.sub_self]; rfl, rfl⟩
    case round =>
      obtain ⟨z, g, rfl, hz, hzg, hg, rfl, rfl⟩ := hrel
      by_cases h0 : 0 < z
      · have gw : IntKind.i64.wrap (z - 1) = z - 1 := IntWalk.i64_in _ (by omega)
        obtain ⟨X, hX⟩ : ∃ X, X = txB (barP (M - g)) := ⟨_, rfl⟩
        rw [← hX]
        have g1 : ¬ 9223372036854775807 < X.size + 1 := by rw [hX, txB_size, barP_len]; omega
        have z5 : z ≤ 5 := by omega
        have HG := Lib.hid (And.intro hX (And.intro hz (And.intro hzg hg)))
        clear hX hz hzg hg
        go_wp2
        go_roundg (g - 1)
        case measure => have := HG.out; omega
        case rel =>
          have hz := HG.out.2.1
          have hzg := HG.out.2.2.1
          have hg := HG.out.2.2.2
          refine ⟨z - 1, g - 1, rfl, by omega, rfl, by omega, ?_, rfl⟩
          rw [HG.out.1, show M - (g - 1) = M - g + 1 from by omega, ← barP_succ, ← txB_snoc]
      · have hg0 : g = 0 := by omega
        subst hg0
        rw [Nat.sub_zero]
        have HM := Lib.hid (show M ≤ 5 by omega)
        have HI1 := Lib.hid (And.intro HI0.out (lt_of_blk HI0.out.2.1))
        clear hz hg hzg hq0 hq1
        obtain ⟨B, hB⟩ : ∃ B, B = txB (barP M) := ⟨_, rfl⟩
        rw [← hB]
        have HB := Lib.hid hB
        clear hB
        go_wp2
        go_loopg [10, 13] n (fun g s10 s13 wr => ∃ (k : Nat) (qs : List Bl) (v : Value), s13 = .int .i64 k ∧ k + g = n ∧ s10 = .string (txB (pathS M root qs)) ∧ BackI w w.heap.size root slash v qs wr)
        case atStart => exact ⟨0, [], _, rfl, by omega, by rw [pathS_nil], HI0.out⟩
        case round =>
          obtain ⟨k, qs, v, rfl, hk, rfl, hI⟩ := hrel
          obtain ⟨q3, hq3⟩ : ∃ q3, qs.length = q3 := ⟨_, rfl⟩
          have hrow := hI.2.2.1
          rw [hq3] at hrow
          obtain ⟨a5, c5, rfl, hc5⟩ := rows_val2 hrow
          clear hrow hc5
          have hb := hI.2.1
          have e0 := cell_blk hb 0
          have e1 := cell_blk hb 1
          have e2 := cell_blk hb 2
          have fz := free_blk hb 2
          simp only [List.getElem?_toArray, List.getElem?_cons_zero, List.getElem?_cons_succ] at e0 e1 e2
          have HI := Lib.hid hI
          have HQ := Lib.hid hq3
          have q12 : q3 ≤ 12 := by rw [← hq3]; exact hI.2.2.2.2.2
          clear hI hb hq3
          by_cases hgo : k < n ∧ q3 < 12
          · obtain ⟨hlk, hlq⟩ := hgo
            have g3 : (k : Int) < (n : Int) := by omega
            have g4 : (q3 : Int) < 12 := by omega
            obtain ⟨y, hy⟩ : ∃ y, ls[k]? = some y := ⟨_, List.getElem?_eq_getElem (by rw [HL.out.2]; exact hlk)⟩
            obtain ⟨bo, off, rfl, hbo, hcells⟩ := HL.out.1.some (by rw [List.length_map, HL.out.2]; omega)
            have hcy := HI.out.1.cell (hcells k _ (mapGet (f := txV) hy)) (fun q => q)
            have hne : ¬ bo = w.heap.size := by omega
            have hne2 : ¬ w.heap.size = bo := by omega
            have HC := Lib.hid (hcells k _ (mapGet (f := txV) hy))
            clear hcells hy hbo
            have hrt := right_c y
            by_cases hr : rightP y = true
            · rw [hr] at hrt
              have hok := right_ok hr
              have hylen := hok.2.2.2
              have HO := Lib.hid hok
              have hsm := pathS_small (root := root) HI.out.2.2.2.2.1 HM.out HI.out.2.2.2.2.2
              have hbl : B.size = M + 1 := by rw [HB.out, txB_size, barP_len]
              have hMl := HM.out
              obtain ⟨X, hX⟩ : ∃ X, X = txB (pathS M root qs) := ⟨_, rfl⟩
              have hXl : X.size ≤ 3201 := by rw [hX, txB_size]; exact hsm
              obtain ⟨X2, hX2⟩ : ∃ X2, X2 = txB (pathS M root qs ++ barS M qs) := ⟨_, rfl⟩
              have hX2l : X2.size ≤ 3207 := by
                rw [hX2, txB_size, List.length_append]
                have : (barS M qs).length ≤ 6 := by
                  unfold barS
                  split
                  · simp
                  · rw [barP_len]; omega
                omega
              obtain ⟨Y, hY⟩ : ∃ Y, Y = txB y := ⟨_, rfl⟩
              have hYl : Y.size ≤ 255 := by rw [hY, txB_size]; exact hylen
              rw [← hX]
              rw [show txV y = .string Y from by rw [hY]] at hcy
              rw [← hY] at hrt
              have g5 : ¬ 9223372036854775807 < X.size + B.size := by omega
              have g6 : ¬ 9223372036854775807 < X2.size + Y.size := by omega
              have HX := Lib.hid (And.intro hX (And.intro hX2 hY))
              clear hX hX2 hY hXl hX2l hYl hbl hsm hylen hr hok hMl
              go_upto_if 50 with (
                go_at_call 15
                with_reducible refine (hrt _).mono ?_
                rintro e w9 ⟨rfl, hw9⟩
                obtain rfl : wr = w9 := hw9.symm)
              go_cut [10] from 30 to 68 (fun s wc => s = .string X2 ∧ wr = wc)
              case first =>
                by_cases h0 : q3 = 0
                · have hq0 : qs = [] := List.length_eq_zero_iff.1 (by rw [HQ.out]; exact h0)
                  have g7 : ¬ (0 : Int) < (q3 : Int) := by omega
                  have HZ := Lib.hid hq0
                  clear hq0
                  go_wp2
                  go_meet
                  case rel => exact ⟨by rw [HX.out.1, HX.out.2.1, HZ.out]; simp [barS], rfl⟩
                · have hq0 : ¬ qs = [] := fun e => h0 (by rw [← HQ.out, e]; rfl)
                  have g7 : (0 : Int) < (q3 : Int) := by omega
                  have g8 : 0 < q3 := by omega
                  have HZ := Lib.hid hq0
                  clear hq0
                  go_wp2
                  go_meet
                  case rel => exact ⟨by rw [HX.out.1, HX.out.2.1, HB.out, txB_append, barS, if_neg HZ.out], rfl⟩
              case rest =>
                obtain ⟨rfl, rfl⟩ := hcut
                obtain ⟨ti, ti1, ti2, ti3, ti4⟩ := str_info
                have hz1 : (Value.string ByteArray.empty).cells.size = 1 := rfl
                have ka : Keep wr (World.drew (wr.alloc (.cells #[.string Y] 9))) (fun _ => False) := (Keep.alloc _ _ _).trans (Keep.drew _ _) (fun _ q => q)
                have ra := rows_keep HI.out.2.2.1 ka (fun _ _ q => q)
                rw [HQ.out] at ra
                have cn : ∀ j u, [Value.string Y][j]? = some u → (World.drew (wr.alloc (.cells #[.string Y] 9))).cell? ((⟨wr.heap.size, 0, none⟩ : Addr).add j) = some u := fun j u hj => cells_new wr [.string Y] 9 j u hj
                have za : (World.drew (wr.alloc (.cells #[.string Y] 9))).heap.size = wr.heap.size + 1 := by show (wr.alloc (.cells #[.string Y] 9)).heap.size = _; simp
                have e2a := (Keep.alloc wr (.cells #[.string Y] 9) (fun _ => False)).cell e2 (fun q => q)
                have e2d := ka.cell e2 (fun q => q)
                have RA := Lib.hid (And.intro ra (And.intro cn (And.intro ka (And.intro za (And.intro ti1 (And.intro ti2 (And.intro ti3 ti4)))))))
                have hb1 := HI1.out.2
                clear ra cn ka za ti1 ti2 ti3 ti4 e0 e1
                go_upto_region 16 with (fail)
                go_region_law (first
                  | (refine step_append_row rfl _ _ _ (by rfl) Tryd.underlying26 RA.out.2.2.2.2.1 RA.out.2.2.2.2.2.1 RA.out.2.2.2.2.2.2.1 RA.out.2.2.2.2.2.2.2 hz1 (by omega) (by rfl) RA.out.1 [.string Y] (by rfl) rfl (.inr ⟨_, rfl, RA.out.2.1⟩) (fun u hu => by rw [List.mem_singleton.1 hu]; rfl) (by omega) (q3 + 1) rfl (qs.map txV ++ [txV y]) (by rw [HX.out.2.2]) ?_
                     intro a8 c8 w8 h8 k8 f8
                     have K8 : Keep wr w8 (fun c => (Value.slice a5 q3 c5).ownBlock = some c) := (RA.out.2.2.1.mono (fun _ q => q.elim)).trans k8 (fun c q => .inl q.symm)
                     have B8 := K8.get HI.out.2.1 (fun q => by have := HI.out.2.2.2.1 _ q; omega)
                     have d8 : w8.cell? ⟨w.heap.size, 2, none⟩ = some (.slice a5 q3 c5) := by rw [cell_blk B8]; rfl
                     have g8 : w8.frozen? ⟨w.heap.size, 2, none⟩ = false := free_blk B8 _
                     have F8 : ∀ c, (Value.slice a8 (q3 + 1) c8).ownBlock = some c → (Value.slice a5 q3 c5).ownBlock = some c ∨ wr.heap.size ≤ c := fun c q => by
                       rcases f8 c q with z | z
                       · exact .inl z
                       · right; rw [z, RA.out.2.2.2.1]; omega
                     have N8 := Lib.hid (BackI.push HI.out (Nat.le_refl _) K8 HQ.out h8 F8 HO.out hlq)
                     clear h8 k8 f8 K8 B8 F8))
                all_goals
                  obtain ⟨wz, hwz⟩ : ∃ wz, wz = w8.setCell ⟨w.heap.size, 2, none⟩ (.slice a8 (q3 + 1) c8) := ⟨_, rfl⟩
                  rw [← hwz] at N8 ⊢
                  have hcz := N8.out.1.cell HC.out (fun q => q)
                  rw [show txV y = .string Y from by rw [HX.out.2.2]] at hcz
                  clear hwz d8 g8 hcy
                  go_wp2
                  go_roundg (n - (k + 1))
                  case measure => omega
                  case rel => exact ⟨k + 1, qs ++ [y], _, rfl, by omega, by rw [HX.out.2.1, HX.out.2.2, txB_append, pathS_snoc], N8.out⟩
            · have hr2 : rightP y = false := by simpa using hr
              rw [hr2] at hrt
              go_wp2_with (
                go_at_call 15
                with_reducible refine (hrt _).mono ?_
                rintro e w9 ⟨rfl, hw9⟩
                obtain rfl : wr = w9 := hw9.symm)
              go_roundg (n - (k + 1))
              case measure => omega
              case rel => exact ⟨k + 1, qs, _, rfl, by omega, rfl, HI.out⟩
          · have hsm := pathS_small (root := root) HI.out.2.2.2.2.1 HM.out HI.out.2.2.2.2.2
            have hbl : B.size = M + 1 := by rw [HB.out, txB_size, barP_len]
            have hMl := HM.out
            obtain ⟨X, hX⟩ : ∃ X, X = txB (pathS M root qs) := ⟨_, rfl⟩
            have hXl : X.size ≤ 3201 := by rw [hX, txB_size]; exact hsm
            rw [← hX]
            have g5 : ¬ 9223372036854775807 < X.size + B.size := by omega
            have HX := Lib.hid hX
            clear hX hsm hXl hbl hMl
            by_cases h0 : q3 = 0
            · subst h0
              have g3 : ¬ (k : Int) < (n : Int) := by omega
              clear hgo
              go_wp2_with (
                go_at_call 10
                refine (known_c _).mono ?_
                rintro e wx ⟨rfl, q⟩
                have K9 := Lib.hid q
                clear q)
              go_ret
              exact ⟨rfl, HI.out.1.trans K9.out (fun _ q => q.elim)⟩
            · have hne : qs ≠ [] := fun e => h0 (by rw [← HQ.out, e]; rfl)
              obtain ⟨hr1, hr2⟩ := back_reads (m := M) (root := root) slash HI.out.2.2.2.2.1 HM.out HI.out.2.2.2.2.2 hne
              have d1 := readPs hr1 HQ.out
              have d2 := readPs hr2 HQ.out
              have hw2 : txB (pathS M root qs ++ if slash then barP M else []) = if slash then X ++ B else X := by
                cases slash
                · simp [HX.out]
                · simp [HX.out, HB.out, txB_append]
              rw [hw2] at d2
              have hrow := HI.out.2.2.1
              have hwc := write_c (root := root) (slash := slash) (ps := qs) (w := wr) hrow (by have := HI.out.2.2.2.2.2; omega) (by have := join_small (m := 0) HI.out.2.2.2.2.1 (by omega) HI.out.2.2.2.2.2; exact Nat.le_trans this (by omega))
              rw [HQ.out] at hrow
              have hql : qs.length ≤ 1099511627776 := by have := HI.out.2.2.2.2.2; omega
              have HR := Lib.hid (And.intro hrow hql)
              generalize txB (writeP root slash qs) = Z at *
              have g6 : ¬ (q3 : Int) = 0 := by omega
              have g7 : ((q3 : Int) == 0) = false := by simp [h0]
              have hex : ¬ k < n ∨ (k < n ∧ ¬ q3 < 12) := by omega
              clear hr1 hr2 hw2 hne hrow hql hgo q12 h0
              rcases hex with hex | ⟨hex1, hex2⟩
              all_goals
                first | (have g3 : ¬ (k : Int) < (n : Int) := by omega) | (have g3 : (k : Int) < (n : Int) := by omega)
                try (have g4 : ¬ (q3 : Int) < 12 := by omega)
                cases slash
                all_goals
                  simp only [if_true, Bool.false_eq_true, if_false] at d2
                  go_upto_region 24 with (first
                    | (go_at_call 21
                       with_reducible refine hwc.mono ?_
                       rintro e w4 ⟨rfl, q⟩
                       have K4 := Lib.hid q
                       clear q)
                    | (go_at_call 11
                       with_reducible refine (d1 _).mono ?_
                       rintro e w5 ⟨s5, c9, rfl, q1, q2⟩
                       have N5 := Lib.hid (And.intro q1 q2)
                       clear q1 q2 d1)
                    | (go_at_call 11
                       with_reducible refine (d2 _).mono ?_
                       rintro e w6 ⟨s6, c6, rfl, q1, q2⟩
                       have N6 := Lib.hid (And.intro q1 q2)
                       clear q1 q2 d2))
                  obtain ⟨W9, hW9, k9, t0, t1, t2, u0, u1, u2, L5, L6⟩ := back_facts K4.out N5.out N6.out
                  rw [hW9]
                  have e9 := k9.cell e2 (fun q => q)
                  have F := Lib.hid (And.intro k9 (And.intro L5 (And.intro L6 ((ListIn.of_own HR.out.1).aside k9))))
                  clear k9 L5 L6 hW9 N5 N6 K4 hwc
                  generalize w5.heap.size = n5 at *
                  generalize w6.heap.size = n6 at *
                  go_wp2_with (first
                    | (go_at_call 12
                       with_reducible refine (sameP (a := qs) (b := qs) F.out.2.1 F.out.2.2.2 HR.out.2 HR.out.2).mono ?_
                       rintro e w7 ⟨rfl, q, rfl⟩
                       rw [show decide (qs = qs) = true from by simp])
                    | (go_at_call 12
                       with_reducible refine (sameP (a := qs) (b := qs) (F.out.2.2.1.aside (drewN_keep _ _ _)) (F.out.2.2.2.aside (drewN_keep _ _ _)) HR.out.2 HR.out.2).mono ?_
                       rintro e w8 ⟨rfl, qq, rfl⟩
                       rw [show decide (qs = qs) = true from by simp])
                    | (go_at_call 10
                       refine (known_c _).mono ?_
                       rintro e wx ⟨rfl, q⟩
                       have K9 := Lib.hid q
                       clear q))
                  go_ret
                  exact ⟨rfl, ((HI.out.1.trans F.out.1 (fun _ q => q.elim)).trans (drewN_keep _ (fun _ => False) _) (fun _ q => q.elim)).trans K9.out (fun _ q => q.elim)⟩

theorem back_below {p : Prop} (a : Option Addr) (n cap : Nat) (ks : List ByteArray) (root slash : Bool) (more : Int) (w : World) (h : StrsIs w a n cap ks) (_ : p) :
    Calls Tryd.prog 8 #[.slice a n cap, .bool root, .bool slash, .int .i64 more] w fun r w' => r = .returned (.bool true) ∧ Below w.heap.size w w' :=
  (back_walk a n cap ks root slash more w h).mono fun _ _ h => ⟨h.1, h.2.below (Nat.le_refl _) (fun _ q => q.elim)⟩

end Go.Proofs.YtlbekofkhjkniaaDoor
