/-
  The document's mounts: New, over, Root, Covered.
-/
import Derived.Test.YtemoickagefjmaaRM0
namespace Go.Proofs.Ytemoickagefjmaa
open Go Go.RowKit Go.Shelf
set_option linter.unusedSectionVars false
set_option linter.unusedSimpArgs false
set_option linter.unusedVariables false
set_option maxRecDepth 100000
attribute [local go_sem] Oper.semAt_some

theorem rmnew_c (w : World) (t : Int) :
    Calls Try.prog 42 #[.int .i64 t] w fun r w' => ∃ rb R, r = .returned (.pointer (some ⟨rb, 0, none⟩)) ∧ RTableAt w' rb R (MountV.new t) ∧ TurnM w (fun _ => False) w' R := by
  go_enter Try.func42, Try.ntmps42
  go_wp2
  go_ret
  have hb := boxes2 w (.cells #[.int .i64 0, .int .i64 0, .int .i64 t, .bool true] 109) (.cells #[.slice (some ⟨w.heap.size, 0, none⟩) 1 1] 112)
  obtain ⟨k, g1, g2, z⟩ := hb
  refine ⟨w.heap.size + 1, fun b => b = w.heap.size + 1 ∨ b = w.heap.size, rfl, ⟨MountV.new_ok t, ⟨.slice (some ⟨w.heap.size, 0, none⟩) 1 1, [⟨0, 0, t, true⟩], g2, ?_, fun b q => ?_, .inl rfl, rfl, rfl⟩, fun b q => by rcases q with q | q <;> omega⟩, k, fun b q => .inr (by rcases q with q | q <;> omega)⟩
  · exact ⟨by simp [flat, rowC], .inr ⟨w.heap.size, 1, _, rfl, Nat.zero_le _, g1, Nat.le_refl _, by unfold maxLen; omega, by simp, by simp [flat, rowC]⟩⟩
  · simp [Value.ownBlock] at q
    exact ⟨.inr q.symm, by omega⟩

def overI (V : MountV) (m n : Int) : Int := match V.over m n with | some x => x.1 | none => -1

theorem laidAt_row (m n : Int) (k : Nat) (r : RowM) : laidAt m n ((k : Int), r.val) = (decide (0 < k) && (decide (r.am = m) && decide (r.an = n))) := by
  unfold laidAt RowM.val
  have : decide ((0 : Int) < (k : Int)) = decide (0 < k) := decide_eq_decide.2 (by omega)
  simp only [this]

set_option maxHeartbeats 2000000 in
theorem rmover_c {w : World} {rb : Nat} {R : Nat → Prop} {V : MountV} (h : RTableAt w rb R V) (hm : V.made ≤ 1000000) (m n : Int) :
    Calls Try.prog 60 #[.pointer (some ⟨rb, 0, none⟩), .agg #[.int .i64 m, .int .i64 n]] w fun e w' => e = .returned (.int .i64 (overI V m n)) ∧ Keep w w' (fun _ => False) := by
  obtain ⟨v, rows, h1, h2, h3, h4, h5, h6⟩ := h.ex
  obtain ⟨sa, cap, rfl, hc⟩ := rows_val2 h2
  have H := Lib.hid (And.intro h1 (And.intro h2 h6))
  have hl := h5
  have hm0 := h.ok.made0
  obtain ⟨ln, hln⟩ : ∃ ln, ln = rows.length := ⟨_, rfl⟩
  have hlb : ln ≤ 1000001 := by omega
  have hl1 : 1 ≤ ln := by omega
  rw [← hln] at hc
  have HL := Lib.hid hln
  have e0 : (Value.slice sa rows.length cap) = .slice sa ln cap := by rw [hln]
  rw [e0] at H
  rw [← hln] at H
  clear h h1 h2 h3 h4 h5 h6 hl hm hm0 hln e0
  obtain ⟨z, hz⟩ : ∃ z, overI V m n = z := ⟨_, rfl⟩
  rw [hz]
  have HZ := Lib.hid hz
  clear hz
  go_enter Try.func60, Try.ntmps60
  go_wp2
  obtain ⟨wB, hwB⟩ : ∃ wB, wB = w.alloc (.cells #[.int .i64 m, .int .i64 n] 49) := ⟨_, rfl⟩
  have W0 := boxes1 w (.cells #[.int .i64 m, .int .i64 n] 49)
  rw [← hwB] at W0
  rw [← hwB]
  have HB := Lib.hid W0
  clear hwB W0
  go_loopg [5] (ln - 1) (fun g s5 wr => ∃ k : Nat, s5 = .int .i64 k ∧ 1 ≤ k ∧ k + g = ln ∧ (∀ y ∈ liveF 0 (rows.take k), laidAt m n y = false) ∧ Keep wB wr (fun _ => False))
  case atStart =>
    refine ⟨1, rfl, by omega, by omega, fun y hy => ?_, Keep.refl _ _⟩
    obtain ⟨j, r, h1, h2, rfl⟩ := (mem_liveF _ _ _).1 hy
    have : j = 0 := by
      have := (List.getElem?_eq_some_iff.1 h1).1
      rw [List.length_take] at this
      omega
    subst this
    simp [laidAt]
  case round =>
    obtain ⟨k, rfl, hk1, hk, hno, hkeep⟩ := hrel
    have c0 : wr.cell? ⟨rb, 0, none⟩ = some (.slice sa ln cap) := by rw [cell_blk (hkeep.get (HB.out.1.get H.out.1 (fun q => q)) (fun q => q))]; rfl
    have bp := hkeep.get HB.out.2.1 (fun q => q)
    have p0 := cell_blk bp 0
    have p1 := cell_blk bp 1
    simp only [List.getElem?_toArray, List.getElem?_cons_zero, List.getElem?_cons_succ] at p0 p1
    have HN := Lib.hid (And.intro hno hkeep)
    clear hno bp
    by_cases hlt : k < ln
    · have g1 : (k : Int) < (ln : Int) := by omega
      have g2 : (0 : Int) ≤ (k : Int) := by omega
      obtain ⟨r, hr⟩ : ∃ r, rows[k]? = some r := ⟨_, List.getElem?_eq_getElem (by have := HL.out; omega)⟩
      have hrow := rows_keep (rows_keep H.out.2.1 HB.out.1 (fun _ _ q => q)) hkeep (fun _ _ q => q)
      obtain ⟨g, rfl, _, _, _⟩ := rows_some hrow (by omega)
      have c1 : wr.cell? ⟨g, k * 4, none⟩ = some (.int .i64 r.am) := (rows_cell hrow (by rw [← Nat.add_zero (k * 4), flat_get rowC 4 rowC_len hr (by omega)]; rfl)).1
      have c2 : wr.cell? ⟨g, k * 4 + 1, none⟩ = some (.int .i64 r.an) := (rows_cell hrow (by rw [flat_get rowC 4 rowC_len hr (by omega)]; rfl)).1
      have c3 : wr.cell? ⟨g, k * 4 + 3, none⟩ = some (.bool r.live) := (rows_cell hrow (by rw [flat_get rowC 4 rowC_len hr (by omega)]; rfl)).1
      have HR := Lib.hid hr
      clear hrow hr hkeep
      have go_on : laidAt m n ((k : Int), r.val) = false ∨ r.live = false → ∀ y ∈ liveF 0 (rows.take (k + 1)), laidAt m n y = false := fun q y hy => by
        rw [List.take_add_one, HR.out, Option.toList_some, liveF_snoc] at hy
        rcases List.mem_append.1 hy with hy | hy
        · exact HN.out.1 y hy
        · split at hy
          · rename_i hlv
            rw [List.mem_singleton.1 hy, List.length_take, Nat.min_eq_left (by have := HL.out; omega)]
            exact q.resolve_right (by rw [hlv]; simp)
          · cases hy
      have GO := Lib.hid go_on
      clear go_on
      obtain ⟨ra, rn, rnode, rlive⟩ := r
      simp only at c1 c2 c3
      cases rlive with
      | false =>
        go_wp2
        go_quiet (fail)
        go_wp2
        go_roundg (ln - (k + 1))
        case measure => omega
        case rel => exact ⟨k + 1, by go_num, by omega, by omega, GO.out (.inr (by first | rfl | trivial)), HN.out.2.aside (drewN_keep _ _ _)⟩
      | true =>
        by_cases he : ra = m ∧ rn = n
        · have hyes : laidAt m n ((k : Int), RowM.val ⟨ra, rn, rnode, true⟩) = true := by rw [laidAt_row]; simp [he.1, he.2]; omega
          have hov : V.over m n = some ((k : Int), RowM.val ⟨ra, rn, rnode, true⟩) := by
            refine find_pre (qs := liveF 0 (rows.take k)) ?_ hyes HN.out.1
            rw [H.out.2.2]
            have e : liveF 0 (rows.take k) ++ [((k : Int), RowM.val ⟨ra, rn, rnode, true⟩)] = liveF 0 (rows.take (k + 1)) := by
              rw [List.take_add_one, HR.out, Option.toList_some, liveF_snoc, if_pos rfl, List.length_take, Nat.min_eq_left (by have := HL.out; omega)]
            rw [e]
            refine ⟨liveF (0 + (rows.take (k + 1)).length) (rows.drop (k + 1)), ?_⟩
            rw [← liveF_append, List.take_append_drop]
          have hzz := HZ.out
          unfold overI at hzz
          rw [hov] at hzz
          have HZ2 := Lib.hid hzz
          have c1' : wr.cell? ⟨g, k * 4, none⟩ = some (.int .i64 m) := by rw [c1, he.1]
          have c2' : wr.cell? ⟨g, k * 4 + 1, none⟩ = some (.int .i64 n) := by rw [c2, he.2]
          clear c1 c2 hov hzz hyes he GO
          go_wp2
          go_quiet (fail)
          go_wp2
          go_ret
          exact ⟨by rw [← HZ2.out]; rfl, (HB.out.1.aside HN.out.2).aside (drewN_keep _ _ _)⟩
        · have hno : laidAt m n ((k : Int), RowM.val ⟨ra, rn, rnode, true⟩) = false := by
            rw [laidAt_row]
            simp only [Bool.and_eq_false_iff, decide_eq_false_iff_not]
            right
            by_cases q : ra = m
            · exact .inr (fun z => he ⟨q, z⟩)
            · exact .inl q
          have HNO := Lib.hid hno
          clear hno
          by_cases q : ra = m
          · have q2 : ¬ rn = n := fun z => he ⟨q, z⟩
            subst q
            clear he
            go_wp2
            go_quiet (fail)
            go_wp2
            go_roundg (ln - (k + 1))
            case measure => omega
            case rel => exact ⟨k + 1, by go_num, by omega, by omega, GO.out (.inl HNO.out), HN.out.2.aside (drewN_keep _ _ _)⟩
          · clear he
            go_wp2
            go_quiet (fail)
            go_wp2
            go_roundg (ln - (k + 1))
            case measure => omega
            case rel => exact ⟨k + 1, by go_num, by omega, by omega, GO.out (.inl HNO.out), HN.out.2.aside (drewN_keep _ _ _)⟩
    · have g1 : ¬ (k : Int) < (ln : Int) := by omega
      have hov : V.over m n = none := by
        refine List.find?_eq_none.2 fun y hy => ?_
        rw [H.out.2.2] at hy
        rw [HN.out.1 y (by rw [List.take_of_length_le (by have := HL.out; omega)]; exact hy)]
        simp
      have hzz := HZ.out
      unfold overI at hzz
      rw [hov] at hzz
      have HZ2 := Lib.hid hzz
      clear hov hzz
      go_wp2
      go_ret
      exact ⟨by rw [← HZ2.out]; rfl, HB.out.1.aside HN.out.2⟩

set_option maxHeartbeats 2000000 in
theorem rmroot_c {w : World} {rb : Nat} {R : Nat → Prop} {V : MountV} (h : RTableAt w rb R V) (hm : V.made ≤ 1000000) (m : Int) :
    Calls Try.prog 46 #[.pointer (some ⟨rb, 0, none⟩), .int .i64 m] w fun e w' => e = .returned (.tuple #[.int .i64 (V.root_ m).1, .bool (V.root_ m).2]) ∧ w' = w := by
  have hi := ris_c h hm m
  obtain ⟨v, rows, h1, h2, h3, h4, h5, h6⟩ := h.ex
  unfold MountV.root_
  by_cases hin : 0 ≤ m ∧ m < (rows.length : Int)
  · obtain ⟨j, hj⟩ : ∃ j : Nat, m = j := ⟨m.toNat, by omega⟩
    subst hj
    obtain ⟨r, hr⟩ : ∃ r, rows[j]? = some r := ⟨_, List.getElem?_eq_getElem (by omega)⟩
    have hg := row_get h.ok h6 hr
    rw [hg] at hi ⊢
    obtain ⟨sa, cap, rfl, hc⟩ := rows_val2 h2
    obtain ⟨g, rfl, _, _, _⟩ := rows_some h2 (by omega)
    have c0 : w.cell? ⟨rb, 0, none⟩ = some (.slice (some ⟨g, 0, none⟩) rows.length cap) := by rw [cell_blk h1]; rfl
    have c1 : w.cell? ⟨g, j * 4 + 2, none⟩ = some (.int .i64 r.node) := (rows_cell h2 (by rw [flat_get rowC 4 rowC_len hr (by omega)]; rfl)).1
    obtain ⟨g1, g2⟩ := hin
    obtain ⟨ra, rn, rnode, rlive⟩ := r
    simp only at c1
    generalize hn : rows.length = n at *
    clear h h1 h2 h3 h4 h5 h6 hr hg hn
    cases rlive with
    | true =>
      simp only [if_true, Option.isSome_some, RowM.val] at hi ⊢
      go_enter Try.func46, Try.ntmps46
      go_wp2_with (
        go_at_call 59
        refine hi.mono ?_
        rintro e w2 ⟨rfl, hw⟩
        subst hw
        clear hi)
      go_ret2
      exact ⟨rfl, rfl⟩
    | false =>
      simp only [Bool.false_eq_true, if_false, Option.isSome_none] at hi ⊢
      go_enter Try.func46, Try.ntmps46
      go_wp2_with (
        go_at_call 59
        refine hi.mono ?_
        rintro e w2 ⟨rfl, hw⟩
        subst hw
        clear hi)
      go_ret2
      exact ⟨rfl, rfl⟩
  · have hg := row_out h6 (m := m) (by omega)
    rw [hg] at hi ⊢
    simp only [Option.isSome_none] at hi ⊢
    clear h h1 h2 h3 h4 h5 h6 hg hin
    go_enter Try.func46, Try.ntmps46
    go_wp2_with (
      go_at_call 59
      refine hi.mono ?_
      rintro e w2 ⟨rfl, hw⟩
      subst hw
      clear hi)
    go_ret2
    exact ⟨rfl, rfl⟩

end Go.Proofs.Ytemoickagefjmaa
