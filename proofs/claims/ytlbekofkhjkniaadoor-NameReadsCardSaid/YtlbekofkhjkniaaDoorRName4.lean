/-
  The document's Clean.
-/
import Derived.Test.YtlbekofkhjkniaaDoorRName2
import Derived.Test.YtlbekofkhjkniaaDoorRName3
namespace Go.Proofs.YtlbekofkhjkniaaDoor
open Go Go.RowKit Go.Shelf
set_option linter.unusedSectionVars false
set_option linter.unusedSimpArgs false
set_option linter.unusedVariables false
attribute [local go_sem] Oper.semAt_some

set_option maxRecDepth 100000 in
set_option maxHeartbeats 4000000 in
theorem rclean_c (s : Bl) (w : World) (hs : s.length ≤ 1000000) :
    Calls Tryd.prog 18 #[.string (txB s)] w fun r w' => r = .returned (.tuple #[.string (txB (cleanP s).1), .int .i64 (cleanP s).2]) ∧ Keep w w' (fun _ => False) := by
  have hrc := fun U => rread_c s U hs
  have hsm : ∀ {ps : List Bl}, ps.Sublist (readP s).1.2.2 → (ps.map List.length).sum + ps.length ≤ 4097 := fun h => readP_sum s h
  unfold cleanP
  generalize readP s = R at *
  generalize txB s = X at *
  obtain ⟨⟨r1, r2, ps⟩, er⟩ := R
  simp only at hrc hsm ⊢
  by_cases he : er = 0
  · subst he
    rw [if_neg (by simp)]
    obtain ⟨res, hres⟩ : ∃ res : Bl × Int, res = if ps.filter noDot = [] ∧ r1 = false then ([46], 0) else (writeP r1 r2 (ps.filter noDot), 0) := ⟨_, rfl⟩
    rw [← hres]
    have RES := Lib.hid hres
    clear hres
    have HS := Lib.hid (show ∀ qs : List Bl, qs.Sublist ps → (qs.map List.length).sum + qs.length ≤ 4097 from fun _ h => hsm h)
    obtain ⟨n, hn⟩ : ∃ n, ps.length = n := ⟨_, rfl⟩
    have hpl : n ≤ 4097 := by have := hsm (List.Sublist.refl ps); omega
    rw [hn] at hrc
    have HN := Lib.hid hn
    clear hn hsm
    go_enter Tryd.func18, Tryd.ntmps18
    go_upto_region 5 with (
      go_at_call 17
      refine (hrc _).mono ?_
      rintro e w1 ⟨v, rfl, hrow, hk⟩
      obtain ⟨sa, cap, rfl, hcap⟩ := rows_val2 hrow
      have D := Lib.hid (And.intro hrow hk)
      have c0 := cell_blk (heap_alloc_eq w1 (.cells #[.bool r1, .bool r2, .slice sa n cap] 38)) 0
      have c1 := cell_blk (heap_alloc_eq w1 (.cells #[.bool r1, .bool r2, .slice sa n cap] 38)) 1
      simp only [List.getElem?_toArray, List.getElem?_cons_zero, List.getElem?_cons_succ] at c0 c1
      clear hrow hk)
    obtain ⟨W1, hW1⟩ : ∃ W1, W1 = w1.alloc (.cells #[.bool r1, .bool r2, .slice sa n cap] 38) := ⟨_, rfl⟩
    have k1 := Keep.alloc w1 (.cells #[.bool r1, .bool r2, .slice sa n cap] 38) (fun _ => False)
    have a1 := heap_alloc_eq w1 (.cells #[.bool r1, .bool r2, .slice sa n cap] 38)
    have z1 : (w1.alloc (.cells #[.bool r1, .bool r2, .slice sa n cap] 38)).heap.size = w1.heap.size + 1 := by simp
    rw [← hW1] at k1 a1 z1 ⊢
    obtain ⟨W2, hW2⟩ : ∃ W2, W2 = W1.alloc (.cells #[.bool r1, .bool r2, .slice none 0 0] 38) := ⟨_, rfl⟩
    rw [← hW2]
    have hP : HoldP 38 W1 W1.heap.size r1 r2 (.slice none 0 0) [] W2 := by
      rw [hW2]
      exact ⟨Keep.alloc _ _ _, heap_alloc_eq W1 _, rows_nil _ _ _, fun c q => by simp [Value.ownBlock] at q⟩
    have E := Lib.hid (And.intro (rows_keep D.out.1 k1 (fun _ _ q => q)) (And.intro (D.out.2.trans k1 (fun _ q => q.elim)) (And.intro a1 hP)))
    rw [← z1]
    have hne : ¬ w1.heap.size = W1.heap.size := by omega
    have hne2 : ¬ W1.heap.size = w1.heap.size := by omega
    clear hW1 hW2 k1 a1 z1 hP D c0 c1
    generalize hb4 : w1.heap.size = b4 at *
    clear hb4
    go_wp2
    go_loopg [7] n (fun g s7 wr => ∃ (k : Nat) (v : Value), s7 = .int .i64 k ∧ k + g = n ∧ HoldP 38 W1 W1.heap.size r1 r2 v (((ps.take k).filter noDot).map txV) wr)
    case atStart => exact ⟨0, _, rfl, by omega, E.out.2.2.2⟩
    case round =>
      obtain ⟨k, v, rfl, hk, hI⟩ := hrel
      obtain ⟨q3, hq3⟩ : ∃ q3, (((ps.take k).filter noDot).map txV).length = q3 := ⟨_, rfl⟩
      have q5 : q3 ≤ 4097 := by
        have h1 := HS.out ((ps.take k).filter noDot) (List.filter_sublist.trans (List.take_sublist _ _))
        rw [← hq3, List.length_map]; omega
      have hrow := hI.2.2.1
      rw [hq3] at hrow
      obtain ⟨a5, c5, rfl, hc5⟩ := rows_val2 hrow
      clear hrow hc5
      have hb := hI.2.1
      have e0 := cell_blk hb 0
      have e1 := cell_blk hb 1
      have e2 := cell_blk hb 2
      have fz := free_blk hb 2
      have d2 := cell_blk (hI.1.get E.out.2.2.1 (fun q => q)) 2
      simp only [List.getElem?_toArray, List.getElem?_cons_zero, List.getElem?_cons_succ] at e0 e1 e2 d2
      have HI := Lib.hid hI
      have HQ3 := Lib.hid hq3
      clear hI hb hq3
      by_cases hlk : k < n
      · have g3 : (k : Int) < (n : Int) := by omega
        obtain ⟨y, hy⟩ : ∃ y, ps[k]? = some y := ⟨_, List.getElem?_eq_getElem (by rw [HN.out]; exact hlk)⟩
        obtain ⟨bo, rfl, -, -, hbo⟩ := rows_some E.out.1 (by omega)
        have hcy : wr.cell? ⟨bo, k, none⟩ = some (.string (txB y)) := HI.out.1.cell (rows_cell E.out.1 (mapGet (f := txV) hy)).1 (fun q => q)
        have hbs : ¬ bo = W1.heap.size := by omega
        have hbs2 : ¬ W1.heap.size = bo := by omega
        have HY := Lib.hid (show ps.take (k + 1) = ps.take k ++ [y] by rw [List.take_add_one, hy]; rfl)
        clear hy hbo
        by_cases hdot : (txB y).toList = [46]
        · have HF := Lib.hid (show (ps.take (k + 1)).filter noDot = (ps.take k).filter noDot by
            rw [HY.out, List.filter_append]
            rw [txB_toList] at hdot
            simp [noDot, hdot])
          go_wp2
          go_roundg (n - (k + 1))
          case measure => omega
          case rel => exact ⟨k + 1, _, rfl, by omega, by rw [HF.out]; exact HI.out⟩
        · have HF := Lib.hid (show (ps.take (k + 1)).filter noDot = (ps.take k).filter noDot ++ [y] by
            rw [HY.out, List.filter_append]
            rw [txB_toList] at hdot
            simp [noDot, hdot])
          have g5 : (!(txB y).toList == [46]) = true := by simp [hdot]
          obtain ⟨ti, ti1, ti2, ti3, ti4⟩ := str_info
          have hz1 : (Value.string ByteArray.empty).cells.size = 1 := rfl
          have ka : Keep wr (World.drew (wr.alloc (.cells #[.string (txB y)] 9))) (fun _ => False) := (Keep.alloc _ _ _).trans (Keep.drew _ _) (fun _ q => q)
          have ra := rows_keep HI.out.2.2.1 ka (fun _ _ q => q)
          rw [HQ3.out] at ra
          have cn : ∀ j u, [Value.string (txB y)][j]? = some u → (World.drew (wr.alloc (.cells #[.string (txB y)] 9))).cell? ((⟨wr.heap.size, 0, none⟩ : Addr).add j) = some u := fun j u hj => cells_new wr [.string (txB y)] 9 j u hj
          have za : (World.drew (wr.alloc (.cells #[.string (txB y)] 9))).heap.size = wr.heap.size + 1 := by show (wr.alloc (.cells #[.string (txB y)] 9)).heap.size = _; simp
          have e2a := (Keep.alloc wr (.cells #[.string (txB y)] 9) (fun _ => False)).cell e2 (fun q => q)
          have e2d := ka.cell e2 (fun q => q)
          have hb1 := lt_of_blk HI.out.2.1
          have RA := Lib.hid (And.intro ra (And.intro cn (And.intro ka (And.intro za (And.intro ti1 (And.intro ti2 (And.intro ti3 ti4)))))))
          clear ra cn ka za ti1 ti2 ti3 ti4 e0 e1
          go_upto_region 9 with (fail)
          go_region_law (first
            | (refine step_append_row rfl _ _ _ (by rfl) Tryd.underlying26 RA.out.2.2.2.2.1 RA.out.2.2.2.2.2.1 RA.out.2.2.2.2.2.2.1 RA.out.2.2.2.2.2.2.2 hz1 (by omega) (by rfl) RA.out.1 [.string (txB y)] (by rfl) rfl (.inr ⟨_, rfl, RA.out.2.1⟩) (fun u hu => by rw [List.mem_singleton.1 hu]; rfl) (by omega) (q3 + 1) rfl (((ps.take k).filter noDot).map txV ++ [txV y]) rfl ?_
               intro a8 c8 w8 h8 k8 f8
               have K8 : Keep wr w8 (fun c => (Value.slice a5 q3 c5).ownBlock = some c) := (RA.out.2.2.1.mono (fun _ q => q.elim)).trans k8 (fun c q => .inl q.symm)
               have B8 := K8.get HI.out.2.1 (fun q => by have := HI.out.2.2.2 _ q; omega)
               have d8 : w8.cell? ⟨W1.heap.size, 2, none⟩ = some (.slice a5 q3 c5) := by rw [cell_blk B8]; rfl
               have fr8 : w8.frozen? ⟨W1.heap.size, 2, none⟩ = false := free_blk B8 _
               have F8 : ∀ c, (Value.slice a8 (q3 + 1) c8).ownBlock = some c → (Value.slice a5 q3 c5).ownBlock = some c ∨ wr.heap.size ≤ c := fun c q => by
                 rcases f8 c q with z | z
                 · exact .inl z
                 · right; rw [z, RA.out.2.2.2.1]; omega
               have N8 := Lib.hid (HoldP.push HI.out (Nat.le_refl _) K8 HQ3.out h8 F8)
               clear h8 k8 f8 K8 B8 F8))
          all_goals
            obtain ⟨wz, hwz⟩ : ∃ wz, wz = w8.setCell ⟨W1.heap.size, 2, none⟩ (.slice a8 (q3 + 1) c8) := ⟨_, rfl⟩
            rw [← hwz] at N8 ⊢
            clear hwz d8 fr8
            go_wp2
            go_roundg (n - (k + 1))
            case measure => omega
            case rel => exact ⟨k + 1, _, rfl, by omega, by rw [HF.out, List.map_append]; exact N8.out⟩
      · have g3 : ¬ (k : Int) < (n : Int) := by omega
        have hk2 : ps.take k = ps := List.take_of_length_le (by rw [HN.out]; omega)
        rw [hk2] at HI HQ3
        have hln : (ps.filter noDot).length = q3 := by rw [← HQ3.out, List.length_map]
        have hnil : (ps.filter noDot = []) = (q3 = 0) := by rw [← List.length_eq_zero_iff, hln]
        have hres := RES.out
        simp only [hnil] at hres
        have hrow := HI.out.2.2.1
        have hwc := rwrite_c (root := r1) (slash := r2) (ps := ps.filter noDot) (w := wr) (v := .slice a5 q3 c5) (by rw [List.length_map] at hrow; exact hrow) (Nat.le_trans (HS.out _ List.filter_sublist) (by omega))
        have HK := Lib.hid (E.out.2.1.trans HI.out.1 (fun _ q => q.elim))
        clear hk2 hln hnil hrow
        by_cases h0 : q3 = 0
        · subst h0
          cases r1
          · rw [if_pos ⟨rfl, rfl⟩] at hres
            have RS := Lib.hid hres
            clear hres
            go_wp2
            go_ret2
            exact ⟨by rw [RS.out]; rfl, HK.out⟩
          · rw [if_neg (by simp)] at hres
            have RS := Lib.hid hres
            clear hres
            go_wp2_with (
              go_at_call 22
              refine hwc.mono ?_
              rintro e w9 ⟨rfl, hk9⟩)
            go_ret2
            exact ⟨by rw [RS.out]; rfl, HK.out.trans hk9 (fun _ q => q.elim)⟩
        · have h0' : ¬ (q3 : Int) = 0 := by omega
          have h0b : ((q3 : Int) == 0) = false := by simp [h0]
          rw [if_neg (fun q => h0 q.1)] at hres
          have RS := Lib.hid hres
          clear hres
          go_wp2_with (
            go_at_call 22
            refine hwc.mono ?_
            rintro e w9 ⟨rfl, hk9⟩)
          go_ret2
          exact ⟨by rw [RS.out]; rfl, HK.out.trans hk9 (fun _ q => q.elim)⟩
  · rw [if_pos he]
    have hzb : (er != 0) = true := by simp [he]
    clear hsm
    go_enter Tryd.func18, Tryd.ntmps18
    go_wp2_with (
      go_at_call 17
      refine (hrc _).mono ?_
      rintro e w1 ⟨v, rfl, hrow, hk⟩
      obtain ⟨sa, cap, rfl, hcap⟩ := rows_val2 hrow
      have D := Lib.hid (And.intro hrow hk)
      clear hrow hk)
    go_ret2
    exact ⟨rfl, D.out.2.trans (Keep.alloc _ _ (fun _ => False)) (fun _ q => q.elim)⟩

end Go.Proofs.YtlbekofkhjkniaaDoor
