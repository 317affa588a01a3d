/-
  NameClean: the walk.
-/
import Derived.Test.YtlbekofkhjkniaaDoorNKnown
import Derived.Test.YtlbekofkhjkniaaDoorName3
import Derived.Deep.Cut
import Derived.Below
namespace Go.Proofs.YtlbekofkhjkniaaDoor
open Go Go.RowKit Go.Shelf
set_option linter.unusedSectionVars false
set_option linter.unusedSimpArgs false
set_option linter.unusedVariables false
attribute [local go_sem] Oper.semAt_some

abbrev CleanAt (s a : ByteArray) (e : Int) : Prop := ∀ U, Calls Tryd.prog 9 #[.string s] U fun r w' => r = .returned (.tuple #[.string a, .int .i64 e]) ∧ Keep U w' (fun _ => False)
abbrev ReadPs (s : ByteArray) (r1 r2 : Bool) (n : Nat) (xs : List Value) (e : Int) : Prop := ∀ U, Calls Tryd.prog 11 #[.string s] U fun r w' => ∃ sa cap, r = .returned (.tuple #[.agg #[.bool r1, .bool r2, .slice sa n cap], .int .i64 e]) ∧ w'.ownsRow 0 9 1 (.slice sa n cap) n xs ∧ Keep U w' (fun _ => False)

theorem cleanAt {l a : Bl} {e : Int} (h : cleanP l = (a, e)) : CleanAt (txB l) (txB a) e := fun U => by
  have hr := clean_c l U
  rwa [h] at hr

theorem readPs {l : Bl} {r1 r2 : Bool} {ps : List Bl} {e : Int} (h : readP l = ((r1, r2, ps), e)) {n : Nat} (hn : n = ps.length) : ReadPs (txB l) r1 r2 n (ps.map txV) e := fun U => by
  subst hn
  have hr := read_c l U
  rw [h] at hr
  refine hr.mono ?_
  rintro x w1 ⟨v, rfl, q1, q2⟩
  obtain ⟨sa, cap, rfl, -⟩ := rows_val2 q1
  exact ⟨sa, cap, rfl, q1, q2⟩

set_option maxRecDepth 100000 in
set_option maxHeartbeats 4000000 in
theorem nclean_walk (x : ByteArray) (w : World) :
    Calls Tryd.prog 3 #[.string x] w fun r w' => r = .returned (.bool true) ∧ Keep w w' (fun _ => False) := by
  obtain ⟨la, hla, lla⟩ := cutB_list 6000 x
  have HA := Lib.hid hla
  clear hla
  go_enter Tryd.func3, Tryd.ntmps3
  go_upto_if 15 with (fail)
  go_cut [0] from 13 (fun s wc => s = .string (txB la) ∧ w = wc)
  case first =>
    by_cases h : 6000 < x.size
    · have g1 : (6000 : Int) < (x.size : Int) := by omega
      have g2 : (6000 : Int) ≤ (x.size : Int) := by omega
      have g3 : 6000 ≤ x.size := by omega
      go_wp2
      go_meet
      case rel => exact ⟨by rw [← HA.out, cutB, if_pos h], rfl⟩
    · have g1 : ¬ (6000 : Int) < (x.size : Int) := by omega
      go_wp2
      go_meet
      case rel => exact ⟨by rw [← HA.out, cutB, if_neg h], rfl⟩
  case rest =>
    obtain ⟨rfl, rfl⟩ := hcut
    clear HA lla
    by_cases hz : (cleanP la).2 = 0
    · obtain ⟨root, slash, ps, hr, hc2, sl, hr2⟩ := clean_plain hz
      have hc1 : cleanP la = ((cleanP la).1, 0) := by rw [← hz]
      generalize hwant : (if ps.filter noDot = [] ∧ root = false then [[46]] else ps.filter noDot) = want at *
      have HWANT := Lib.hid hwant
      have d1 := cleanAt hc1
      have d2 := cleanAt hc2
      have d3 := readPs hr rfl
      have d4 := readPs hr2 rfl
      have hsum := readP_sum la (ps := ps) (by rw [hr]; exact List.Sublist.refl _)
      have hwl : want.length ≤ 4097 := by
        have := readP_sum (cleanP la).1 (ps := want) (by rw [hr2]; exact List.Sublist.refl _)
        omega
      generalize txB (cleanP la).1 = A at *
      generalize txB la = x1 at *
      have HN := Lib.hid (rfl : ps.length = ps.length)
      have HW2 := Lib.hid (rfl : want.length = want.length)
      generalize hn : ps.length = n at HN d3 hsum
      generalize hwn : want.length = wn at HW2 d4 hwl
      clear hr hr2 hc1 hc2 hz hwant HN HW2
      have HS := Lib.hid (And.intro hsum (And.intro hn (And.intro hwn hwl)))
      clear hsum hn hwn hwl
      have gA : (A.toList == A.toList) = true := by simp
      clear la
      go_upto_region 10 with (first
        | (go_at_call 9
           with_reducible refine (d1 _).mono ?_
           rintro e w1 ⟨rfl, q⟩
           have K1 := Lib.hid q
           clear q d1)
        | (go_at_call 9
           with_reducible refine (d2 _).mono ?_
           rintro e w2 ⟨rfl, q⟩
           have K2 := Lib.hid q
           clear q d2)
        | (go_at_call 11
           with_reducible refine (d3 _).mono ?_
           rintro e w3 ⟨s3, c3, rfl, q1, q2⟩
           have N3 := Lib.hid (And.intro q1 q2)
           clear q1 q2 d3)
        | (go_at_call 11
           with_reducible refine (d4 _).mono ?_
           rintro e w4 ⟨s4, c4, rfl, q1, q2⟩
           have N4 := Lib.hid (And.intro q1 q2)
           clear q1 q2 d4))
      have kx3 := Keep.alloc w3 (.cells #[.bool root, .bool slash, .slice s3 n c3] 28) (fun _ => False)
      have bx3 := heap_alloc_eq w3 (.cells #[.bool root, .bool slash, .slice s3 n c3] 28)
      have kx4 := Keep.alloc w4 (.cells #[.bool root, .bool sl, .slice s4 wn c4] 28) (fun _ => False)
      have bx4 := heap_alloc_eq w4 (.cells #[.bool root, .bool sl, .slice s4 wn c4] 28)
      obtain ⟨W, hW⟩ : ∃ W, W = w4.alloc (.cells #[.bool root, .bool sl, .slice s4 wn c4] 28) := ⟨_, rfl⟩
      rw [← hW] at kx4 bx4 ⊢
      have kb := N4.out.2.trans kx4 (fun _ q => q.elim)
      have b3 := kb.get bx3 (fun q => q)
      have r3 := rows_keep (rows_keep N3.out.1 kx3 (fun _ _ q => q)) kb (fun _ _ q => q)
      have r4 := rows_keep N4.out.1 kx4 (fun _ _ q => q)
      have kw := (((K1.out.trans K2.out (fun _ q => q.elim)).trans N3.out.2 (fun _ q => q.elim)).trans kx3 (fun _ q => q.elim)).trans kb (fun _ q => q.elim)
      clear hW kx3 bx3 kx4 kb N3 N4 K1 K2
      generalize w4.heap.size = n4 at *
      generalize w3.heap.size = n3 at *
      have D := Lib.hid (And.intro r3 (And.intro r4 (And.intro kw (And.intro b3 bx4))))
      clear r3 r4 kw b3 bx4 w1 w2 w3 w4
      obtain ⟨ti, ti1, ti2, ti3, ti4⟩ := str_info
      have HI := Lib.hid (And.intro ti1 (And.intro ti2 (And.intro ti3 ti4)))
      clear ti1 ti2 ti3 ti4
      have hz1 : (Value.string ByteArray.empty).cells.size = 1 := rfl
      go_wp2
      go_loopg [11, 12] n (fun g s11 s12 wr => ∃ k : Nat, s12 = .int .i64 k ∧ k + g = n ∧ Made W wr 9 s11 (((ps.take k).filter noDot).map txV))
      case atStart => exact ⟨0, rfl, by omega, Made.nil W 9⟩
      case round =>
        obtain ⟨k, rfl, hk, hM⟩ := hrel
        obtain ⟨q3, hq3⟩ : ∃ q3, (((ps.take k).filter noDot).map txV).length = q3 := ⟨_, rfl⟩
        have hqs : q3 ≤ 4097 := by
          have h1 := HS.out.2.1
          have h2 := HS.out.1
          have h3 : ((ps.take k).filter noDot).length ≤ (ps.take k).length := List.length_filter_le _ _
          rw [List.length_take] at h3
          rw [← hq3, List.length_map]; omega
        have M := Lib.hid hM
        obtain ⟨a5, c5, rfl⟩ := hM.valn hq3
        have HQ3 := Lib.hid hq3
        clear hM hq3
        have e0 := cell_blk (M.out.keep.get D.out.2.2.2.1 (fun q => q)) 0
        have e2 := cell_blk (M.out.keep.get D.out.2.2.2.1 (fun q => q)) 2
        simp only [List.getElem?_toArray, List.getElem?_cons_zero, List.getElem?_cons_succ] at e0 e2
        have hn9 : n ≤ 4097 := by have := HS.out.1; omega
        by_cases hlk : k < n
        · have g3 : (k : Int) < (n : Int) := by omega
          obtain ⟨y, hy⟩ : ∃ y, ps[k]? = some y := ⟨_, List.getElem?_eq_getElem (by rw [HS.out.2.1]; exact hlk)⟩
          obtain ⟨bo, rfl, -, -, hbo⟩ := rows_some D.out.1 (by omega)
          have hcy := (rows_cell D.out.1 (mapGet (f := txV) hy)).1
          have e3 : wr.cell? ⟨bo, k, none⟩ = some (.string (txB y)) := M.out.keep.cell hcy (fun q => q)
          have HY := Lib.hid (show ps.take (k + 1) = ps.take k ++ [y] by rw [List.take_add_one, hy]; rfl)
          clear hcy hy
          by_cases hdot : (txB y).toList = [46]
          · have HF := Lib.hid (show (ps.take (k + 1)).filter noDot = (ps.take k).filter noDot by
              rw [HY.out, List.filter_append]
              rw [txB_toList] at hdot
              simp [noDot, hdot])
            go_wp2
            go_roundg (n - (k + 1))
            case measure => omega
            case rel => exact ⟨k + 1, rfl, by omega, by rw [HF.out]; exact M.out⟩
          · have HF := Lib.hid (show (ps.take (k + 1)).filter noDot = (ps.take k).filter noDot ++ [y] by
              rw [HY.out, List.filter_append]
              rw [txB_toList] at hdot
              simp [noDot, hdot])
            have g5 : (!(txB y).toList == [46]) = true := by simp [hdot]
            go_wp2_with (
              at_builtin
              refine law_push rfl _ _ _ rfl Tryd.underlying26 HI.out.1 HI.out.2.1 HI.out.2.2.1 HI.out.2.2.2 hz1 M.out rfl (.string (txB y)) rfl rfl HQ3.out (by omega) ?_
              intro a8 cap8 w8 hM8 _ _
              have M8 := Lib.hid hM8
              clear hM8)
            go_roundg (n - (k + 1))
            case measure => omega
            case rel => exact ⟨k + 1, rfl, by omega, by rw [HF.out, List.map_append]; exact M8.out⟩
        · have g3 : ¬ (k : Int) < (n : Int) := by omega
          have hk2 : ps.take k = ps := List.take_of_length_le (by rw [HS.out.2.1]; omega)
          rw [hk2] at M HQ3
          have hln : (ps.filter noDot).length = q3 := by rw [← HQ3.out, List.length_map]
          have hnil : (ps.filter noDot = []) = (q3 = 0) := by rw [← List.length_eq_zero_iff, hln]
          have hwant := HWANT.out
          simp only [hnil] at hwant
          have f0 := cell_blk (M.out.keep.get D.out.2.2.2.2 (fun q => q)) 0
          have f2 := cell_blk (M.out.keep.get D.out.2.2.2.2 (fun q => q)) 2
          simp only [List.getElem?_toArray, List.getElem?_cons_zero, List.getElem?_cons_succ] at f0 f2
          have HL := Lib.hid hln
          have KM := Lib.hid (D.out.2.2.1.trans M.out.keep (fun _ q => q.elim))
          have L4 := Lib.hid ((ListIn.of_own D.out.2.1).aside M.out.keep)
          clear hk2 hnil hln
          by_cases h0 : q3 = 0 ∧ root = false
          · rw [if_pos h0] at hwant
            obtain ⟨rfl, rfl⟩ := h0
            subst hwant
            have f0' := (Keep.alloc wr (.cells #[.string ⟨#[46]⟩] 9) (fun _ => False)).cell f0 (fun q => q)
            have f2' := (Keep.alloc wr (.cells #[.string ⟨#[46]⟩] 9) (fun _ => False)).cell f2 (fun q => q)
            have e0' := (Keep.alloc wr (.cells #[.string ⟨#[46]⟩] 9) (fun _ => False)).cell e0 (fun q => q)
            go_wp2_with (first
              | (go_at_call 12
                 refine (sameP (a := [[46]]) (b := [[46]]) (L4.out.aside (Keep.alloc _ _ (fun _ => False))) (list_lit wr 9 ([[46]].map txV) (cs := #[.string ⟨#[46]⟩]) rfl rfl rfl) (by decide) (by decide)).mono ?_
                 rintro e w7 ⟨rfl, q, rfl⟩)
              | (go_at_call 10
                 refine (known_c _).mono ?_
                 rintro e wx ⟨rfl, q⟩
                 have K9 := Lib.hid q
                 clear q))
            go_ret
            exact ⟨rfl, (KM.out.trans ((Keep.alloc _ _ (fun _ => False)).trans (drewN_keep _ (fun _ => False) _) (fun _ q => q.elim)) (fun _ q => q.elim)).trans K9.out (fun _ q => q.elim)⟩
          · rw [if_neg h0] at hwant
            subst hwant
            have e5 : (List.filter noDot ps).length ≤ 1099511627776 := by rw [HL.out]; omega
            have E5 := Lib.hid e5
            clear e5
            cases root
            · have g6 : ¬ q3 = 0 := fun q => h0 ⟨q, rfl⟩
              have g7 : ¬ (q3 : Int) = 0 := by omega
              have g8 : ((q3 : Int) == 0) = false := by simp [g6]
              clear h0
              go_wp2_with (first
                | (go_at_call 12
                   refine (sameP (a := ps.filter noDot) (b := ps.filter noDot) L4.out M.out.list E5.out E5.out).mono ?_
                   rintro e w7 ⟨rfl, q, rfl⟩
                   rw [show decide (ps.filter noDot = ps.filter noDot) = true from by simp])
                | (go_at_call 10
                   refine (known_c _).mono ?_
                   rintro e wx ⟨rfl, q⟩
                   have K9 := Lib.hid q
                   clear q))
              go_ret
              exact ⟨rfl, (KM.out.trans (drewN_keep _ (fun _ => False) _) (fun _ q => q.elim)).trans K9.out (fun _ q => q.elim)⟩
            · by_cases g6 : q3 = 0
              · subst g6
                clear h0
                go_wp2_with (first
                  | (go_at_call 12
                     refine (sameP (a := ps.filter noDot) (b := ps.filter noDot) L4.out M.out.list E5.out E5.out).mono ?_
                     rintro e w7 ⟨rfl, q, rfl⟩
                     rw [show decide (ps.filter noDot = ps.filter noDot) = true from by simp])
                  | (go_at_call 10
                     refine (known_c _).mono ?_
                     rintro e wx ⟨rfl, q⟩
                     have K9 := Lib.hid q
                     clear q))
                go_ret
                exact ⟨rfl, (KM.out.trans (drewN_keep _ (fun _ => False) _) (fun _ q => q.elim)).trans K9.out (fun _ q => q.elim)⟩
              · have g7 : ¬ (q3 : Int) = 0 := by omega
                have g8 : ((q3 : Int) == 0) = false := by simp [g6]
                clear h0
                go_wp2_with (first
                  | (go_at_call 12
                     refine (sameP (a := ps.filter noDot) (b := ps.filter noDot) L4.out M.out.list E5.out E5.out).mono ?_
                     rintro e w7 ⟨rfl, q, rfl⟩
                     rw [show decide (ps.filter noDot = ps.filter noDot) = true from by simp])
                  | (go_at_call 10
                     refine (known_c _).mono ?_
                     rintro e wx ⟨rfl, q⟩
                     have K9 := Lib.hid q
                     clear q))
                go_ret
                exact ⟨rfl, (KM.out.trans (drewN_keep _ (fun _ => False) _) (fun _ q => q.elim)).trans K9.out (fun _ q => q.elim)⟩
    · have hc := clean_fault hz
      obtain ⟨ec, hec⟩ : ∃ ec, ec = (cleanP la).2 := ⟨_, rfl⟩
      rw [← hec] at hz
      have hcl : CleanAt (txB la) ⟨#[]⟩ ec := cleanAt (a := []) (by rw [hec, ← hc])
      have hzb : (ec != 0) = true := by simp [hz]
      clear hc hec
      go_wp2_with (first
        | (go_at_call 9
           refine (hcl _).mono ?_
           rintro e w1 ⟨rfl, q⟩
           have KX := Lib.hid q
           clear q)
        | (go_at_call 10
           refine (known_c _).mono ?_
           rintro e wx ⟨rfl, q⟩
           have KX := Lib.hid q
           clear q))
      go_ret
      refine ⟨rfl, ?_⟩
      repeat (first | exact Keep.refl _ _ | (refine Keep.trans ?_ (Keep.alloc _ _ (fun _ => False)) (fun _ q => q.elim)) | (apply Keep.add; assumption))

theorem nclean_below {p : Prop} (x : ByteArray) (w : World) (_ : p) : Calls Tryd.prog 3 #[.string x] w fun r w' => r = .returned (.bool true) ∧ Below w.heap.size w w' :=
  (nclean_walk x w).mono fun _ _ h => ⟨h.1, h.2.below (Nat.le_refl _) (fun _ q => q.elim)⟩

end Go.Proofs.YtlbekofkhjkniaaDoor
