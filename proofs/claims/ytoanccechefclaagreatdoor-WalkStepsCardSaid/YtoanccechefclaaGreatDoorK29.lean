/-
  Parts of the walk's proof: WalkC. (joined by pack.py)
-/
import Derived.Test.YtoanccechefclaaGreatDoorK28
set_option linter.unusedSectionVars false
set_option linter.unusedSimpArgs false
set_option linter.unusedVariables false
namespace Go.Proofs.YtoanccechefclaaGreatDoor
open Go Go.RowKit Go.Shelf
set_option maxRecDepth 100000
attribute [local go_sem] Oper.semAt_some
theorem WkAt.setLinks {w : World} {wb tb mb : Nat} {E : WkE} {v : WkV} (h : WkAt w wb tb mb E v) (k : Int) :
    WkAt (w.setCell ⟨wb, 11, none⟩ (.int .i64 k)) wb tb mb E { v with links := k } ∧ Keep w (w.setCell ⟨wb, 11, none⟩ (.int .i64 k)) (fun x => x = wb) := by
  obtain ⟨la, lc, h1, h2, h3, h4⟩ := h.ex
  have s := sets_at [(11, .int .i64 k)] h1
  have K := sets_keep (b := wb) [(11, .int .i64 k)] w
  simp only [sets] at s K
  exact ⟨⟨la, lc, by simpa [setAll, wkC] using s, h2.keep K h3, h3, h4⟩, K⟩
theorem WkAt.setSlash {w : World} {wb tb mb : Nat} {E : WkE} {v : WkV} (h : WkAt w wb tb mb E v) (k : Bool) :
    WkAt (w.setCell ⟨wb, 10, none⟩ (.bool k)) wb tb mb E { v with slash := k } ∧ Keep w (w.setCell ⟨wb, 10, none⟩ (.bool k)) (fun x => x = wb) := by
  obtain ⟨la, lc, h1, h2, h3, h4⟩ := h.ex
  have s := sets_at [(10, .bool k)] h1
  have K := sets_keep (b := wb) [(10, .bool k)] w
  simp only [sets] at s K
  exact ⟨⟨la, lc, by simpa [setAll, wkC] using s, h2.keep K h3, h3, h4⟩, K⟩
theorem WkAt.setLeft {w : World} {wb tb mb : Nat} {E : WkE} {v : WkV} (h : WkAt w wb tb mb E v) {l : List Bl} {a : Option Addr} {cap : Nat} (hl : ListIn w (.slice a l.length cap) (l.map txV)) (hc : Clear (.slice a l.length cap) (fun b => b = wb)) (hcap : l.length ≤ cap ∧ cap ≤ maxLen) :
    WkAt (w.setCell ⟨wb, 9, none⟩ (.slice a l.length cap)) wb tb mb E { v with left := l } ∧ Keep w (w.setCell ⟨wb, 9, none⟩ (.slice a l.length cap)) (fun x => x = wb) := by
  obtain ⟨la, lc, h1, h2, h3, h4⟩ := h.ex
  have s := sets_at [(9, .slice a l.length cap)] h1
  have K := sets_keep (b := wb) [(9, .slice a l.length cap)] w
  simp only [sets] at s K
  exact ⟨⟨a, cap, by simpa [setAll, wkC] using s, hl.keep K hc, hc, hcap⟩, K⟩
theorem rows_apart {w : World} {e t : TypeId} {v : Value} {n b : Nat} {xs : List Value} {c : Array Value} {fr : Nat × Nat} (h : w.ownsRow 0 e 1 v n xs) (hb : w.heap[b]? = some (.cells c t fr)) (hne : t ≠ e) : Clear v (fun x => x = b) := by
  intro g hg q
  have q' : g = b := q
  subst q'
  rcases h.2 with ⟨rfl, _⟩ | ⟨g', cap, cur, rfl, _, hc, _⟩
  · simp [Value.ownBlock] at hg
  · simp only [Value.ownBlock, Option.some.injEq] at hg
    subst hg
    rw [hc] at hb
    simp only [Option.some.injEq, Obj.cells.injEq] at hb
    exact hne hb.2.1.symm
theorem rows_cap {w : World} {e : TypeId} {a : Option Addr} {n m c : Nat} {xs : List Value} (h : w.ownsRow 0 e 1 (.slice a m c) n xs) : m ≤ c ∧ c ≤ maxLen := by
  rcases h.2 with ⟨q, _⟩ | ⟨g, cap, cur, q, _, _, h1, h2, _⟩
  · cases q
    exact ⟨Nat.le_refl _, Nat.zero_le _⟩
  · cases q
    exact ⟨h1, h2⟩
set_option maxHeartbeats 8000000 in
theorem symlink_c {w : World} {wb tb mb : Nat} {s : TShape} {S : Nat → Prop} {E : WkE} {v : WkV} (h : WkW w wb tb mb s S E v) (hv : v.fine) (dm dn : Int) (text : Bl) (ht : text.length ≤ 1000) :
    Calls Tryz.prog 126 #[.pointer (some ⟨wb, 0, none⟩), .agg #[.int .i64 dm, .int .i64 dn], .string (txB text)] w fun e w' => e = .returned (.int .i64 (wlink E v dm dn text).1) ∧ WkAt w' wb tb mb E (wlink E v dm dn text).2 ∧ Keep w w' (fun b => b = wb) := by
  obtain ⟨R, hR⟩ : ∃ R, wlink E v dm dn text = R := ⟨_, rfl⟩
  rw [hR]
  unfold wlink at hR
  have hsz := txB_size text
  have hl0 := hv.l0
  have hl1 := hv.l1
  have hlen := hv.len
  have H := Lib.hid h
  obtain ⟨la, lc, h1, -⟩ := h.wk.ex
  have t11 := (wkCells h1).c11
  have f11 := free_blk h1 11
  have hwb := h.wk.lt
  clear h h1
  by_cases c1 : 40 ≤ v.links
  · rw [if_pos c1] at hR
    subst hR
    clear hlen hsz
    go_enter Tryz.func126, Tryz.ntmps126
    go_wp2
    go_ret
    have kB := Keep.alloc w (.cells #[.int .i64 dm, .int .i64 dn] 38) (fun _ => False)
    exact ⟨rfl, H.out.wk.aside kB, kB.mono (fun _ q => q.elim)⟩
  · rw [if_neg c1] at hR
    have g1 : ¬ (40 : Int) ≤ v.links := c1
    obtain ⟨W1, hW1⟩ : ∃ W1, W1 = (w.setCell ⟨wb, 11, none⟩ (.int .i64 (v.links + 1))).alloc (.cells #[.int .i64 dm, .int .i64 dn] 38) := ⟨_, rfl⟩
    obtain ⟨hX1, hb1, hk1⟩ : WkW W1 wb tb mb s S E { v with links := v.links + 1 } ∧ W1.heap[w.heap.size]? = some (plO dm dn) ∧ Keep w W1 (fun b => b = wb) := by
      obtain ⟨q1, q2⟩ := H.out.wk.setLinks (v.links + 1)
      have hz : (w.setCell ⟨wb, 11, none⟩ (.int .i64 (v.links + 1))).heap.size = w.heap.size := by simp
      rw [hW1]
      generalize w.setCell ⟨wb, 11, none⟩ (.int .i64 (v.links + 1)) = w1 at *
      refine ⟨(H.out.turn q2 q1).aside (Keep.alloc _ _ _), ?_, q2.allocNew _⟩
      rw [← hz]
      exact heap_alloc_eq w1 _
    have B := Lib.hid (And.intro hX1 (And.intro hb1 (And.intro hk1 hW1)))
    clear hX1 hb1 hk1 hW1
    by_cases c2 : text = []
    · rw [if_pos c2] at hR
      subst hR
      have e0 : (txB text).toList.isEmpty = true := by rw [ByteArray.toList_eq, List.isEmpty_iff]; exact c2
      clear hlen hsz c2
      go_enter Tryz.func126, Tryz.ntmps126
      go_wp2
      rw [← B.out.2.2.2]
      go_ret
      exact ⟨rfl, B.out.1.wk, B.out.2.2.1⟩
    · rw [if_neg c2] at hR
      have e0 : ¬ (txB text).toList = [] := by rw [ByteArray.toList_eq]; exact c2
      have e0' : (txB text).toList.isEmpty = false := by rw [List.isEmpty_eq_false_iff]; exact e0
      clear c2
      go_enter Tryz.func126, Tryz.ntmps126
      go_upto_region 6 with (fail)
      rw [← B.out.2.2.2]
      clear t11 f11
      obtain ⟨la, lc, h1, h2, h3, h4, h5⟩ := B.out.1.wk.ex
      simp only at h1 h2 h4
      have t9 := (wkCells h1).c9
      have t10 := (wkCells h1).c10
      simp only at t10
      have n1 := World.new_ne W1 _ t9
      have hwr := fun w1 (K : Keep W1 w1 (fun _ => False)) => writeL_c (root := false) (slash := v.slash) (ps := v.left) (sa := la) (cap := lc) (w := w1) (h2.aside K) h4 (by omega) (Nat.le_trans (join_le _) (by have := hlen.2.2; unfold wtL at this; omega))
      obtain ⟨wr, hwe⟩ : ∃ wr, txB (writeP false v.slash v.left) = wr := ⟨_, rfl⟩
      have hws : wr.size = (writeP false v.slash v.left).length := by rw [← hwe, txB_size]
      have hwle := writeP_le v.slash v.left
      rw [hwe] at hwr
      have hsum : IntKind.i64.wrap (((txB text).size : Int) + (wr.size : Int)) = ((txB text).size : Int) + (wr.size : Int) := IntWalk.i64_in _ (by have := hlen.2.2; omega)
      obtain ⟨q, hq⟩ : ∃ q, decide ((4096 : Int) < ((txB text).size : Int) + (wr.size : Int)) = q := ⟨_, rfl⟩
      have HQ := Lib.hid (And.intro hq (And.intro hws hsz))
      have HL := Lib.hid (And.intro h2 (And.intro h3 (And.intro h4 (And.intro h5 hlen))))
      clear h1 h2 h3 h4 h5 hws hsz hwle hwe hlen
      go_cut [37] (fun s37 wx => s37 = .bool q ∧ Keep W1 wx (fun _ => False))
      case first =>
        go_region_held3 (fun w' => w'.cell? ⟨wb, 9, none⟩ = some (.slice la v.left.length lc) ∧ w'.cell? ⟨wb, 10, none⟩ = some (.bool v.slash)) (go_keep) (
          (go_at_call 142
           refine (hwr _ ?_).mono ?_
           · repeat (first | exact Keep.refl _ _ | exact Keep.drew _ _ | refine Keep.allocNew ?_ _ | refine Keep.drewNew ?_)
           rintro e w7 ⟨rfl, k7⟩
           have kw : Keep W1 w7 (fun _ => False) := (Keep.drew W1 _).trans k7 (fun _ q => q.elim)
           have q0 := kw.cell t9 (fun q => q)
           have q1 := kw.cell t10 (fun q => q)))
        all_goals go_wp2
        all_goals go_meet
        all_goals exact ⟨by rw [← HQ.out.1], kw⟩
      case rest =>
        obtain ⟨rfl, kc⟩ := hcut
        clear hwr hsum t9 t10 n1
        obtain ⟨wp, hwp⟩ : ∃ wp : World, wp = wc := ⟨_, rfl⟩
        subst hwp
        have C := Lib.hid (And.intro (B.out.1.aside kc) (And.intro (kc.get B.out.2.1 (fun q => q)) (B.out.2.2.1.trans kc (fun _ q => q.elim))))
        cases q with
        | true =>
          rw [if_pos (by have h1 := of_decide_eq_true HQ.out.1; have h2 := HQ.out.2.1; have h3 := HQ.out.2.2; omega)] at hR
          subst hR
          go_wp2
          go_ret
          exact ⟨rfl, C.out.1.wk, C.out.2.2⟩
        | false =>
          rw [if_neg (by have h1 := of_decide_eq_false HQ.out.1; have h2 := HQ.out.2.1; have h3 := HQ.out.2.2; omega)] at hR
          have hrd := read_c text
          have hpw := readP_wtL text
          obtain ⟨⟨⟨pr, psl, pl⟩, pe⟩, hrp⟩ : ∃ x, readP text = x := ⟨_, rfl⟩
          rw [hrp] at hrd hR hpw
          simp only at hrd hR hpw
          have HP := Lib.hid hpw
          clear hpw hrp
          clear kc
          go_upto_region 9 with (
            go_at_call 100
            refine (hrd _).mono ?_
            rintro e w3 ⟨pv, rfl, ho, k3⟩
            obtain ⟨pa, pc, rfl, hpc⟩ := rows_val2 ho
            obtain ⟨_, _, hwk, -⟩ := C.out.1.wk.ex
            have hcl : Clear (.slice pa pl.length pc) (fun b => b = wb) := rows_apart ho (k3.get hwk (fun q => q)) (by decide)
            have N3 := Lib.hid (And.intro (ListIn.of_own ho) (And.intro k3 hcl))
            clear ho k3 hpc hrd hwk hcl)
          obtain ⟨Wp, hWp⟩ : ∃ Wp, Wp = w3.alloc (.cells #[.bool pr, .bool psl, .slice pa pl.length pc] 180) := ⟨_, rfl⟩
          have ka := Keep.alloc w3 (.cells #[.bool pr, .bool psl, .slice pa pl.length pc] 180) (fun _ => False)
          have ba := heap_alloc_eq w3 (.cells #[.bool pr, .bool psl, .slice pa pl.length pc] 180)
          rw [← hWp] at ka ba ⊢
          clear hWp
          have kp : Keep wp Wp (fun _ => False) := N3.out.2.1.trans ka (fun _ q => q.elim)
          have D := Lib.hid (And.intro (C.out.1.aside kp) (And.intro (kp.get C.out.2.1 (fun q => q)) (And.intro (C.out.2.2.trans kp (fun _ q => q.elim)) (And.intro ba (N3.out.1.aside ka)))))
          have hpb : wb < w3.heap.size := by have := C.out.1.wk.lt; have := N3.out.2.1.size; omega
          have hpd : w.heap.size < w3.heap.size := by have := lt_of_blk C.out.2.1; have := N3.out.2.1.size; omega
          clear ka ba kp C B
          by_cases hpe : pe = 0
          · have g2 : (pe != 0) = false := by simpa using hpe
            rw [if_neg (fun q => q hpe)] at hR
            subst hpe
            obtain ⟨la2, lc2, h1, -⟩ := D.out.1.wk.ex
            have t4 := (wkCells h1).c4
            have t5 := (wkCells h1).c5
            have t7 := (wkCells h1).c7
            have t8 := (wkCells h1).c8
            have f7 := free_blk h1 7
            have f8 := free_blk h1 8
            obtain ⟨p0, p1, -, -⟩ := plO_cells D.out.2.1
            have r0 := cell_blk D.out.2.2.2.1 0
            simp only [List.getElem?_toArray, List.getElem?_cons_zero, List.getElem?_cons_succ] at r0
            have z1 : ¬ wb = w3.heap.size := by omega
            have z2 : ¬ wb = w.heap.size := by omega
            have z3 : ¬ w3.heap.size = wb := by omega
            clear h1
            go_upto_if 51 with (fail)
            go_cut [] (fun wx => Keep Wp wx (fun b => b = wb) ∧ WkAt wx wb tb mb E { v with links := v.links + 1, m := if pr then E.rm else dm, n := if pr then E.rn else dn })
            case first =>
              obtain ⟨q1, q2⟩ := D.out.1.wk.setAt dm dn
              cases pr with
              | true =>
                obtain ⟨q3, q4⟩ := q1.setAt E.rm E.rn
                have Q := Lib.hid (And.intro (q2.trans q4 (fun x q => .inl q)) q3)
                clear q1 q2 q3 q4
                go_wp2
                go_meet
                case rel => exact Q.out
              | false =>
                have Q := Lib.hid (And.intro q2 q1)
                clear q1 q2
                go_wp2
                go_meet
                case rel => exact Q.out
            case rest =>
              obtain ⟨kq, hq⟩ := hcut
              obtain ⟨wq, hwq⟩ : ∃ wq : World, wq = wc := ⟨_, rfl⟩
              subst hwq
              clear t4 t5 t7 t8 f7 f8 p0 p1 r0
              obtain ⟨m3, hm3⟩ : ∃ m3, (if pr = true then E.rm else dm) = m3 := ⟨_, rfl⟩
              obtain ⟨n3, hn3⟩ : ∃ n3, (if pr = true then E.rn else dn) = n3 := ⟨_, rfl⟩
              obtain ⟨s3, hs3⟩ : ∃ s3, (if v.left = [] then v.slash || psl else v.slash) = s3 := ⟨_, rfl⟩
              rw [hm3, hn3] at hq hR
              rw [hs3] at hR
              have HS := Lib.hid hs3
              have F := Lib.hid (And.intro kq (And.intro hq (kq.get D.out.2.2.2.1 z3)))
              obtain ⟨la3, lc3, h1, h2, h3, h4⟩ := hq.ex
              simp only at h1 h2 h3 h4
              have t9 := (wkCells h1).c9
              have t10 := (wkCells h1).c10
              have f10 := free_blk h1 10
              have r1 := cell_blk (kq.get D.out.2.2.2.1 z3) 1
              simp only [List.getElem?_toArray, List.getElem?_cons_zero, List.getElem?_cons_succ] at r1 t9 t10
              clear kq hq h1 h2 h3 h4 hm3 hn3 hs3
              go_upto_if 64 with (fail)
              go_cut [] (fun wx => Keep Wp wx (fun b => b = wb) ∧ WkAt wx wb tb mb E { v with links := v.links + 1, m := m3, n := n3, slash := s3 })
              case first =>
                by_cases hl : v.left = []
                · have hs := HS.out
                  rw [if_pos hl] at hs
                  have e1 : v.left.length = 0 := by rw [hl]; rfl
                  cases hv0 : v.slash with
                  | true =>
                    rw [hv0] at hs t10
                    obtain ⟨q1, q2⟩ := F.out.2.1.setSlash true
                    have Q := Lib.hid (And.intro (F.out.1.trans q2 (fun x q => .inl q)) q1)
                    have hs' : true = s3 := by simpa using hs
                    subst hs'
                    clear q1 q2 hs hl
                    go_wp2
                    go_meet
                    case rel => exact Q.out
                  | false =>
                    rw [hv0] at hs t10
                    obtain ⟨q1, q2⟩ := F.out.2.1.setSlash psl
                    have Q := Lib.hid (And.intro (F.out.1.trans q2 (fun x q => .inl q)) q1)
                    have hs' : psl = s3 := by simpa using hs
                    subst hs'
                    clear q1 q2 hs hl
                    go_wp2
                    go_meet
                    case rel => exact Q.out
                · have hs := HS.out
                  rw [if_neg hl] at hs
                  have e1 : ¬ v.left.length = 0 := fun e => hl (List.length_eq_zero_iff.1 e)
                  subst hs
                  have Q := Lib.hid (And.intro F.out.1 F.out.2.1)
                  clear hl
                  go_wp2
                  go_meet
                  case rel => exact Q.out
              case rest =>
                obtain ⟨kq, hq⟩ := hcut
                obtain ⟨wz, hwz⟩ : ∃ wz : World, wz = wc := ⟨_, rfl⟩
                subst hwz
                clear t9 t10 f10 r1
                obtain ⟨la3, lc3, h1, h2, h3, h4, h5⟩ := hq.ex
                simp only at h1 h2 h3 h4 h5
                have t9 := (wkCells h1).c9
                have f9 := free_blk h1 9
                have r2 := cell_blk (kq.get D.out.2.2.2.1 z3) 2
                simp only [List.getElem?_toArray, List.getElem?_cons_zero, List.getElem?_cons_succ] at r2 t9
                have hpl : ListIn wz (.slice pa pl.length pc) (pl.map txV) := D.out.2.2.2.2.keep kq N3.out.2.2
                have hln : pl.length + v.left.length ≤ 1000000 := by
                  have q1 := HP.out
                  have q2 := HL.out.2.2.2.2.1
                  unfold wtL at q1
                  omega
                have hcc : ∀ w1 g, Keep wz w1 (fun _ => False) → w1.cell? ⟨g, 0, none⟩ = some (.slice pa pl.length pc) → w1.cell? ⟨g, 1, none⟩ = some (.slice la3 v.left.length lc3) →
                    Calls Tryz.prog 143 #[.slice (some ⟨g, 0, none⟩) 2 2] w1 fun e w' => ∃ y, e = .returned y ∧ Made w1 w' 9 y ((pl ++ v.left).map txV) ∧ Keep wz w' (fun _ => False) := by
                  intro w1 g K c0 c1
                  refine (concat_c c0 c1 (hpl.aside K) (h2.aside K) hln).mono ?_
                  rintro e w' ⟨x, q1, q2⟩
                  exact ⟨x, q1, q2, K.trans q2.keep (fun _ q => q.elim)⟩
                have G := Lib.hid (And.intro kq (And.intro hq h1))
                clear kq hq hpl h1 h2 h3 h4 h5
                go_upto_region 16 with (fail)
                go_cut [] (fun wx => Keep Wp wx (fun b => b = wb) ∧ WkAt wx wb tb mb E { v with links := v.links + 1, m := m3, n := n3, slash := s3, left := pl ++ v.left })
                case first =>
                  go_region_with (
                    go_at_call 143
                    refine (hcc _ _ ?_ ?_ ?_).mono ?_
                    · repeat (first | exact Keep.refl _ _ | exact Keep.drew _ _ | refine Keep.allocNew ?_ _ | refine Keep.drewNew ?_)
                    · go_simp
                    · go_simp
                    rintro e w7 ⟨v7, rfl, m7, kw⟩
                    obtain ⟨a7, c7, rfl⟩ := m7.valn (n := (pl ++ v.left).length) (by rw [List.length_map])
                    have q0 := kw.cell t9 (fun q => q)
                    have q1 := free_blk (kw.get G.out.2.2 (fun q => q)) 9)
                  all_goals go_wp2
                  all_goals go_meet
                  all_goals
                    have hc7 : Clear (.slice a7 (pl ++ v.left).length c7) (fun b => b = wb) := rows_apart m7.row (kw.get G.out.2.2 (fun q => q)) (by decide)
                    obtain ⟨q5, q6⟩ := (G.out.2.1.aside kw).setLeft m7.list hc7 (rows_cap m7.row)
                    rw [List.length_append] at q5 q6
                    exact ⟨(G.out.1.trans kw (fun _ q => q.elim)).trans q6 (fun x q => .inl q), q5⟩
                case rest =>
                  obtain ⟨kq, hq⟩ := hcut
                  have Z := Lib.hid (And.intro (D.out.2.2.1.trans kq (fun b q => .inl q)) hq)
                  have hh := here_c hq
                  clear kq hq t9 f9 r2 hcc
                  go_wp2_with (
                    go_at_call 101
                    refine hh.mono ?_
                    rintro e w9 ⟨⟨u9, rfl⟩, h9, k9⟩
                    have Y := Lib.hid (And.intro h9 k9)
                    clear hh h9 k9)
                  go_ret
                  rw [← hR]
                  exact ⟨rfl, Y.out.1, Z.out.1.trans Y.out.2 (fun b q => .inl q)⟩
          · have g2 : (pe != 0) = true := by simpa using hpe
            rw [if_pos hpe] at hR
            subst hR
            go_wp2
            go_ret
            exact ⟨rfl, D.out.1.wk, D.out.2.2.1⟩
end Go.Proofs.YtoanccechefclaaGreatDoor
