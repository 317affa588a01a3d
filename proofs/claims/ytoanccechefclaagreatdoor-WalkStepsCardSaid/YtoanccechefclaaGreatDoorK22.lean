/-
  Parts of the walk's proof: RM1, RM2, RM3, RM4, RM5. (joined by pack.py)
-/
import Derived.Deep.RegionLaw
import Derived.Test.YtoanccechefclaaGreatDoorK21
set_option linter.unusedSectionVars false
set_option linter.unusedSimpArgs false
set_option linter.unusedVariables false
namespace Go.Proofs.YtoanccechefclaaGreatDoor
open Go Go.RowKit Go.Shelf
set_option maxRecDepth 100000
attribute [local go_sem] Oper.semAt_some
theorem rmnew_c (w : World) (t : Int) :
    Calls Tryz.prog 39 #[.int .i64 t] w fun r w' => ∃ rb R, r = .returned (.pointer (some ⟨rb, 0, none⟩)) ∧ RTableAt w' rb R (MountV.new t) ∧ TurnM w (fun _ => False) w' R := by
  go_enter Tryz.func39, Tryz.ntmps39
  go_wp2
  go_ret
  have hb := boxes2 w (.cells #[.int .i64 0, .int .i64 0, .int .i64 t, .bool true] 150) (.cells #[.slice (some ⟨w.heap.size, 0, none⟩) 1 1] 153)
  obtain ⟨k, g1, g2, z⟩ := hb
  refine ⟨w.heap.size + 1, fun b => b = w.heap.size + 1 ∨ b = w.heap.size, rfl, ⟨MountV.new_ok t, ⟨.slice (some ⟨w.heap.size, 0, none⟩) 1 1, [⟨0, 0, t, true⟩], g2, ?_, fun b q => ?_, .inl rfl, rfl, rfl⟩, fun b q => by rcases q with q | q <;> omega⟩, k, fun b q => .inr (by rcases q with q | q <;> omega)⟩
  · exact ⟨by simp [flat, rowC], .inr ⟨w.heap.size, 1, _, rfl, Nat.zero_le _, g1, Nat.le_refl _, by unfold maxLen; omega, by simp, by simp [flat, rowC]⟩⟩
  · simp [Value.ownBlock] at q
    exact ⟨.inr q.symm, by omega⟩
def overI (V : MountV) (m n : Int) : Int := match V.over m n with | some x => x.1 | none => -1
theorem laidAt_row (m n : Int) (k : Nat) (r : RowM) : laidAt m n ((k : Int), r.val) = (decide (0 < k) && (decide (r.am = m) && decide (r.an = n))) := by
  unfold laidAt RowM.val
  have : decide ((0 : Int) < (k : Int)) = decide (0 < k) := decide_eq_decide.2 (by omega)
  simp only [this]
set_option maxHeartbeats 2000000 in
theorem rmover_c {w : World} {rb : Nat} {R : Nat → Prop} {V : MountV} (h : RTableAt w rb R V) (hm : V.made ≤ 1000000) (m n : Int) :
    Calls Tryz.prog 117 #[.pointer (some ⟨rb, 0, none⟩), .agg #[.int .i64 m, .int .i64 n]] w fun e w' => e = .returned (.int .i64 (overI V m n)) ∧ Keep w w' (fun _ => False) := by
  obtain ⟨v, rows, h1, h2, h3, h4, h5, h6⟩ := h.ex
  obtain ⟨sa, cap, rfl, hc⟩ := rows_val2 h2
  have H := Lib.hid (And.intro h1 (And.intro h2 h6))
  have hl := h5
  have hm0 := h.ok.made0
  obtain ⟨ln, hln⟩ : ∃ ln, ln = rows.length := ⟨_, rfl⟩
  have hlb : ln ≤ 1000001 := by omega
  have hl1 : 1 ≤ ln := by omega
  rw [← hln] at hc
  have HL := Lib.hid hln
  have e0 : (Value.slice sa rows.length cap) = .slice sa ln cap := by rw [hln]
  rw [e0] at H
  rw [← hln] at H
  clear h h1 h2 h3 h4 h5 h6 hl hm hm0 hln e0
  obtain ⟨z, hz⟩ : ∃ z, overI V m n = z := ⟨_, rfl⟩
  rw [hz]
  have HZ := Lib.hid hz
  clear hz
  go_enter Tryz.func117, Tryz.ntmps117
  go_wp2
  obtain ⟨wB, hwB⟩ : ∃ wB, wB = w.alloc (.cells #[.int .i64 m, .int .i64 n] 38) := ⟨_, rfl⟩
  have W0 := boxes1 w (.cells #[.int .i64 m, .int .i64 n] 38)
  rw [← hwB] at W0
  rw [← hwB]
  have HB := Lib.hid W0
  clear hwB W0
  go_loopg [5] (ln - 1) (fun g s5 wr => ∃ k : Nat, s5 = .int .i64 k ∧ 1 ≤ k ∧ k + g = ln ∧ (∀ y ∈ liveF 0 (rows.take k), laidAt m n y = false) ∧ Keep wB wr (fun _ => False))
  case atStart =>
    refine ⟨1, rfl, by omega, by omega, fun y hy => ?_, Keep.refl _ _⟩
    obtain ⟨j, r, h1, h2, rfl⟩ := (mem_liveF _ _ _).1 hy
    have : j = 0 := by
      have := (List.getElem?_eq_some_iff.1 h1).1
      rw [List.length_take] at this
      omega
    subst this
    simp [laidAt]
  case round =>
    obtain ⟨k, rfl, hk1, hk, hno, hkeep⟩ := hrel
    have c0 : wr.cell? ⟨rb, 0, none⟩ = some (.slice sa ln cap) := by rw [cell_blk (hkeep.get (HB.out.1.get H.out.1 (fun q => q)) (fun q => q))]; rfl
    have bp := hkeep.get HB.out.2.1 (fun q => q)
    have p0 := cell_blk bp 0
    have p1 := cell_blk bp 1
    simp only [List.getElem?_toArray, List.getElem?_cons_zero, List.getElem?_cons_succ] at p0 p1
    have HN := Lib.hid (And.intro hno hkeep)
    clear hno bp
    by_cases hlt : k < ln
    · have g1 : (k : Int) < (ln : Int) := by omega
      have g2 : (0 : Int) ≤ (k : Int) := by omega
      obtain ⟨r, hr⟩ : ∃ r, rows[k]? = some r := ⟨_, List.getElem?_eq_getElem (by have := HL.out; omega)⟩
      have hrow := rows_keep (rows_keep H.out.2.1 HB.out.1 (fun _ _ q => q)) hkeep (fun _ _ q => q)
      obtain ⟨g, rfl, _, _, _⟩ := rows_some hrow (by omega)
      have c1 : wr.cell? ⟨g, k * 4, none⟩ = some (.int .i64 r.am) := (rows_cell hrow (by rw [← Nat.add_zero (k * 4), flat_get rowC 4 rowC_len hr (by omega)]; rfl)).1
      have c2 : wr.cell? ⟨g, k * 4 + 1, none⟩ = some (.int .i64 r.an) := (rows_cell hrow (by rw [flat_get rowC 4 rowC_len hr (by omega)]; rfl)).1
      have c3 : wr.cell? ⟨g, k * 4 + 3, none⟩ = some (.bool r.live) := (rows_cell hrow (by rw [flat_get rowC 4 rowC_len hr (by omega)]; rfl)).1
      have HR := Lib.hid hr
      clear hrow hr hkeep
      have go_on : laidAt m n ((k : Int), r.val) = false ∨ r.live = false → ∀ y ∈ liveF 0 (rows.take (k + 1)), laidAt m n y = false := fun q y hy => by
        rw [List.take_add_one, HR.out, Option.toList_some, liveF_snoc] at hy
        rcases List.mem_append.1 hy with hy | hy
        · exact HN.out.1 y hy
        · split at hy
          · rename_i hlv
            rw [List.mem_singleton.1 hy, List.length_take, Nat.min_eq_left (by have := HL.out; omega)]
            exact q.resolve_right (by rw [hlv]; simp)
          · cases hy
      have GO := Lib.hid go_on
      clear go_on
      obtain ⟨ra, rn, rnode, rlive⟩ := r
      simp only at c1 c2 c3
      cases rlive with
      | false =>
        go_wp2
        go_quiet (fail)
        go_wp2
        go_roundg (ln - (k + 1))
        case measure => omega
        case rel => exact ⟨k + 1, by go_num, by omega, by omega, GO.out (.inr (by first | rfl | trivial)), HN.out.2.aside (drewN_keep _ _ _)⟩
      | true =>
        by_cases he : ra = m ∧ rn = n
        · have hyes : laidAt m n ((k : Int), RowM.val ⟨ra, rn, rnode, true⟩) = true := by rw [laidAt_row]; simp [he.1, he.2]; omega
          have hov : V.over m n = some ((k : Int), RowM.val ⟨ra, rn, rnode, true⟩) := by
            refine find_pre (qs := liveF 0 (rows.take k)) ?_ hyes HN.out.1
            rw [H.out.2.2]
            have e : liveF 0 (rows.take k) ++ [((k : Int), RowM.val ⟨ra, rn, rnode, true⟩)] = liveF 0 (rows.take (k + 1)) := by
              rw [List.take_add_one, HR.out, Option.toList_some, liveF_snoc, if_pos rfl, List.length_take, Nat.min_eq_left (by have := HL.out; omega)]
            rw [e]
            refine ⟨liveF (0 + (rows.take (k + 1)).length) (rows.drop (k + 1)), ?_⟩
            rw [← liveF_append, List.take_append_drop]
          have hzz := HZ.out
          unfold overI at hzz
          rw [hov] at hzz
          have HZ2 := Lib.hid hzz
          have c1' : wr.cell? ⟨g, k * 4, none⟩ = some (.int .i64 m) := by rw [c1, he.1]
          have c2' : wr.cell? ⟨g, k * 4 + 1, none⟩ = some (.int .i64 n) := by rw [c2, he.2]
          clear c1 c2 hov hzz hyes he GO
          go_wp2
          go_quiet (fail)
          go_wp2
          go_ret
          exact ⟨by rw [← HZ2.out]; rfl, (HB.out.1.aside HN.out.2).aside (drewN_keep _ _ _)⟩
        · have hno : laidAt m n ((k : Int), RowM.val ⟨ra, rn, rnode, true⟩) = false := by
            rw [laidAt_row]
            simp only [Bool.and_eq_false_iff, decide_eq_false_iff_not]
            right
            by_cases q : ra = m
            · exact .inr (fun z => he ⟨q, z⟩)
            · exact .inl q
          have HNO := Lib.hid hno
          clear hno
          by_cases q : ra = m
          · have q2 : ¬ rn = n := fun z => he ⟨q, z⟩
            subst q
            clear he
            go_wp2
            go_quiet (fail)
            go_wp2
            go_roundg (ln - (k + 1))
            case measure => omega
            case rel => exact ⟨k + 1, by go_num, by omega, by omega, GO.out (.inl HNO.out), HN.out.2.aside (drewN_keep _ _ _)⟩
          · clear he
            go_wp2
            go_quiet (fail)
            go_wp2
            go_roundg (ln - (k + 1))
            case measure => omega
            case rel => exact ⟨k + 1, by go_num, by omega, by omega, GO.out (.inl HNO.out), HN.out.2.aside (drewN_keep _ _ _)⟩
    · have g1 : ¬ (k : Int) < (ln : Int) := by omega
      have hov : V.over m n = none := by
        refine List.find?_eq_none.2 fun y hy => ?_
        rw [H.out.2.2] at hy
        rw [HN.out.1 y (by rw [List.take_of_length_le (by have := HL.out; omega)]; exact hy)]
        simp
      have hzz := HZ.out
      unfold overI at hzz
      rw [hov] at hzz
      have HZ2 := Lib.hid hzz
      clear hov hzz
      go_wp2
      go_ret
      exact ⟨by rw [← HZ2.out]; rfl, HB.out.1.aside HN.out.2⟩
end Go.Proofs.YtoanccechefclaaGreatDoor
namespace Go.Proofs.YtoanccechefclaaGreatDoor
open Go Go.RowKit Go.Shelf
set_option maxRecDepth 100000
attribute [local go_sem] Oper.semAt_some
theorem take_live {rows : List RowM} {k : Nat} {r : RowM} (hr : rows[k]? = some r) : liveF 0 (rows.take (k + 1)) = liveF 0 (rows.take k) ++ if r.live then [((k : Int), r.val)] else [] := by
  have hk : k < rows.length := (List.getElem?_eq_some_iff.1 hr).1
  rw [List.take_add_one, hr, Option.toList_some, liveF_snoc, List.length_take, Nat.min_eq_left (by omega)]
theorem int_info2 : ∃ i, Tryz.prog.info? 3 = some i ∧ i.zero = some (.int .i64 0) ∧ i.size = 1 ∧ i.bytes ≤ 64 := by
  have h : (Tryz.prog.info? 3).map (fun i => (i.zero, i.size, i.bytes)) = some (some (.int .i64 0), 1, 8) := by kernel_rfl
  cases hh : Tryz.prog.info? 3 with
  | none => rw [hh] at h; simp at h
  | some i =>
    rw [hh] at h
    simp only [Option.map_some, Option.some.injEq, Prod.mk.injEq] at h
    exact ⟨i, rfl, h.1, h.2.1, by omega⟩
theorem liveF_len : ∀ (l : List RowM) (i : Nat), (liveF i l).length ≤ l.length
  | [], i => by simp [liveF]
  | r :: l, i => by
    have := liveF_len l (i + 1)
    simp only [liveF, List.length_append, List.length_cons]
    split <;> simp <;> omega
set_option maxHeartbeats 2000000 in
theorem rmlist_c {w : World} {rb : Nat} {R : Nat → Prop} {V : MountV} (h : RTableAt w rb R V) (hm : V.made ≤ 1000000) :
    Calls Tryz.prog 118 #[.pointer (some ⟨rb, 0, none⟩)] w fun e w' => ∃ v, e = .returned v ∧ Made w w' 3 v (V.list.map (Value.int .i64)) := by
  obtain ⟨v, rows, h1, h2, h3, h4, h5, h6⟩ := h.ex
  obtain ⟨sa, cap, rfl, hc⟩ := rows_val2 h2
  have H := Lib.hid (And.intro h1 (And.intro h2 h6))
  have hl := h5
  have hm0 := h.ok.made0
  obtain ⟨ln, hln⟩ : ∃ ln, ln = rows.length := ⟨_, rfl⟩
  have hlb : ln ≤ 1000001 := by omega
  rw [← hln] at hc
  have HL := Lib.hid hln
  have e0 : (Value.slice sa rows.length cap) = .slice sa ln cap := by rw [hln]
  rw [e0] at H
  rw [← hln] at H
  obtain ⟨ti, ti1, ti2, ti3, ti4⟩ := int_info2
  have HI := Lib.hid (And.intro ti1 (And.intro ti2 (And.intro ti3 ti4)))
  have hz1 : (Value.int .i64 0).cells.size = 1 := rfl
  clear h h1 h2 h3 h4 h5 h6 hl hm hm0 hln e0 ti1 ti2 ti3 ti4
  go_enter Tryz.func118, Tryz.ntmps118
  go_wp2
  go_loopg [3, 4] ln (fun g s3 s4 wr => ∃ k : Nat, s4 = .int .i64 k ∧ k + g = ln ∧ Made w wr 3 s3 (((liveF 0 (rows.take k)).map Prod.fst).map (Value.int .i64)))
  case atStart => exact ⟨0, rfl, by omega, by simpa [liveF] using Made.nil w 3⟩
  case round =>
    obtain ⟨k, rfl, hk, hM⟩ := hrel
    have c0 : wr.cell? ⟨rb, 0, none⟩ = some (.slice sa ln cap) := by rw [cell_blk (hM.keep.get H.out.1 (fun q => q))]; rfl
    obtain ⟨q, hq⟩ : ∃ q, (((liveF 0 (rows.take k)).map Prod.fst).map (Value.int .i64)).length = q := ⟨_, rfl⟩
    have hql : q ≤ ln := by
      rw [← hq, List.length_map, List.length_map]
      have := liveF_len (rows.take k) 0
      rw [List.length_take] at this
      omega
    have M := Lib.hid (And.intro hM hq)
    obtain ⟨a3, cap3, rfl⟩ := hM.valn hq
    by_cases hlt : k < ln
    · have g1 : (k : Int) < (ln : Int) := by omega
      have g2 : (0 : Int) ≤ (k : Int) := by omega
      obtain ⟨r, hr⟩ : ∃ r, rows[k]? = some r := ⟨_, List.getElem?_eq_getElem (by have := HL.out; omega)⟩
      have hrow := rows_keep H.out.2.1 hM.keep (fun _ _ q => q)
      obtain ⟨g, rfl, _, _, _⟩ := rows_some hrow (by omega)
      have c3 : wr.cell? ⟨g, k * 4 + 3, none⟩ = some (.bool r.live) := (rows_cell hrow (by rw [flat_get rowC 4 rowC_len hr (by omega)]; rfl)).1
      have HR := Lib.hid (take_live hr)
      clear hrow hr hM hq
      obtain ⟨ra, rn, rnode, rlive⟩ := r
      simp only at c3
      cases rlive with
      | false =>
        go_wp2
        go_roundg (ln - (k + 1))
        case measure => omega
        case rel => exact ⟨k + 1, by go_num, by omega, by rw [HR.out]; simpa using M.out.1⟩
      | true =>
        go_wp2_with (
          at_builtin
          refine law_push rfl _ _ _ rfl Tryz.underlying25 HI.out.1 HI.out.2.1 HI.out.2.2.1 HI.out.2.2.2 hz1 M.out.1 rfl (.int .i64 k) rfl rfl M.out.2 (by omega) ?_
          intro a8 cap8 w8 hM8 _ _
          have M8 := Lib.hid hM8
          clear hM8)
        go_roundg (ln - (k + 1))
        case measure => omega
        case rel => exact ⟨k + 1, by go_num, by omega, by rw [HR.out]; simpa using M8.out⟩
    · have g1 : ¬ (k : Int) < (ln : Int) := by omega
      clear hM hq
      go_wp2
      go_ret
      refine ⟨_, rfl, ?_⟩
      unfold MountV.list
      have := M.out.1
      rw [List.take_of_length_le (by have := HL.out; omega), ← H.out.2.2] at this
      exact this
set_option maxHeartbeats 2000000 in
theorem rmabv_c {w : World} {rb : Nat} {R : Nat → Prop} {V : MountV} (h : RTableAt w rb R V) (hm : V.made ≤ 1000000) (m : Int) :
    Calls Tryz.prog 96 #[.pointer (some ⟨rb, 0, none⟩), .int .i64 m] w fun e w' => ∃ v, e = .returned v ∧ Made w w' 3 v ((V.above m).map (Value.int .i64)) := by
  obtain ⟨v, rows, h1, h2, h3, h4, h5, h6⟩ := h.ex
  obtain ⟨sa, cap, rfl, hc⟩ := rows_val2 h2
  have H := Lib.hid (And.intro h1 (And.intro h2 h6))
  have hl := h5
  have hm0 := h.ok.made0
  obtain ⟨ln, hln⟩ : ∃ ln, ln = rows.length := ⟨_, rfl⟩
  have hlb : ln ≤ 1000001 := by omega
  have hl1 : 1 ≤ ln := by omega
  rw [← hln] at hc
  have HL := Lib.hid hln
  have e0 : (Value.slice sa rows.length cap) = .slice sa ln cap := by rw [hln]
  rw [e0] at H
  rw [← hln] at H
  obtain ⟨ti, ti1, ti2, ti3, ti4⟩ := int_info2
  have HI := Lib.hid (And.intro ti1 (And.intro ti2 (And.intro ti3 ti4)))
  have hz1 : (Value.int .i64 0).cells.size = 1 := rfl
  clear h h1 h2 h3 h4 h5 h6 hl hm hm0 hln e0 ti1 ti2 ti3 ti4
  go_enter Tryz.func96, Tryz.ntmps96
  go_wp2
  go_loopg [5, 6] (ln - 1) (fun g s5 s6 wr => ∃ k : Nat, s6 = .int .i64 k ∧ 1 ≤ k ∧ k + g = ln ∧ Made w wr 3 s5 ((abv m (liveF 0 (rows.take k))).map (Value.int .i64)))
  case atStart =>
    refine ⟨1, rfl, by omega, by omega, ?_⟩
    have e : abv m (liveF 0 (rows.take 1)) = [] := by
      unfold abv
      have : (liveF 0 (rows.take 1)).filter (fun x => decide (0 < x.1) && decide (x.2.am = m)) = [] := by
        rw [List.filter_eq_nil_iff]
        intro y hy
        obtain ⟨j, r, h1, h2, rfl⟩ := (mem_liveF _ _ _).1 hy
        have : j = 0 := by
          have := (List.getElem?_eq_some_iff.1 h1).1
          rw [List.length_take] at this
          omega
        subst this
        simp
      rw [this]; rfl
    rw [e]
    exact Made.nil w 3
  case round =>
    obtain ⟨k, rfl, hk1, hk, hM⟩ := hrel
    have c0 : wr.cell? ⟨rb, 0, none⟩ = some (.slice sa ln cap) := by rw [cell_blk (hM.keep.get H.out.1 (fun q => q))]; rfl
    obtain ⟨q, hq⟩ : ∃ q, ((abv m (liveF 0 (rows.take k))).map (Value.int .i64)).length = q := ⟨_, rfl⟩
    have hql : q ≤ ln := by
      rw [← hq, List.length_map]
      have := liveF_len (rows.take k) 0
      have := abv_len m (liveF 0 (rows.take k))
      rw [List.length_take] at *
      omega
    have M := Lib.hid (And.intro hM hq)
    obtain ⟨a3, cap3, rfl⟩ := hM.valn hq
    by_cases hlt : k < ln
    · have g1 : (k : Int) < (ln : Int) := by omega
      have g2 : (0 : Int) ≤ (k : Int) := by omega
      obtain ⟨r, hr⟩ : ∃ r, rows[k]? = some r := ⟨_, List.getElem?_eq_getElem (by have := HL.out; omega)⟩
      have hrow := rows_keep H.out.2.1 hM.keep (fun _ _ q => q)
      obtain ⟨g, rfl, _, _, _⟩ := rows_some hrow (by omega)
      have c1 : wr.cell? ⟨g, k * 4, none⟩ = some (.int .i64 r.am) := (rows_cell hrow (by rw [← Nat.add_zero (k * 4), flat_get rowC 4 rowC_len hr (by omega)]; rfl)).1
      have c3 : wr.cell? ⟨g, k * 4 + 3, none⟩ = some (.bool r.live) := (rows_cell hrow (by rw [flat_get rowC 4 rowC_len hr (by omega)]; rfl)).1
      have HR := Lib.hid (take_live hr)
      clear hrow hr hM hq
      obtain ⟨ra, rn, rnode, rlive⟩ := r
      simp only at c1 c3
      cases rlive with
      | false =>
        go_wp2
        go_roundg (ln - (k + 1))
        case measure => omega
        case rel => exact ⟨k + 1, by go_num, by omega, by omega, by rw [HR.out]; simpa using M.out.1⟩
      | true =>
        by_cases he : ra = m
        · have HE := Lib.hid he
          have g3 : (ra == m) = true := by simpa using he
          clear he
          go_wp2_with (
            at_builtin
            refine law_push rfl _ _ _ rfl Tryz.underlying25 HI.out.1 HI.out.2.1 HI.out.2.2.1 HI.out.2.2.2 hz1 M.out.1 rfl (.int .i64 k) rfl rfl M.out.2 (by omega) ?_
            intro a8 cap8 w8 hM8 _ _
            have M8 := Lib.hid hM8
            clear hM8)
          go_roundg (ln - (k + 1))
          case measure => omega
          case rel =>
            refine ⟨k + 1, by go_num, by omega, by omega, ?_⟩
            rw [HR.out]; simp only [if_true]; rw [abv_snoc, if_pos (show (0 : Int) < (k : Int) ∧ (RowM.val ⟨ra, rn, rnode, true⟩).am = m from ⟨by omega, HE.out⟩), List.map_append]
            exact M8.out
        · have HE := Lib.hid he
          have g3 : (ra == m) = false := by simpa using he
          clear he
          go_wp2
          go_roundg (ln - (k + 1))
          case measure => omega
          case rel =>
            refine ⟨k + 1, by go_num, by omega, by omega, ?_⟩
            rw [HR.out]; simp only [if_true]; rw [abv_snoc, if_neg (show ¬ ((0 : Int) < (k : Int) ∧ (RowM.val ⟨ra, rn, rnode, true⟩).am = m) from fun z => HE.out z.2), List.append_nil]
            exact M.out.1
    · have g1 : ¬ (k : Int) < (ln : Int) := by omega
      clear hM hq
      go_wp2
      go_ret
      refine ⟨_, rfl, ?_⟩
      have := M.out.1
      rw [List.take_of_length_le (by have := HL.out; omega), ← H.out.2.2] at this
      exact this
end Go.Proofs.YtoanccechefclaaGreatDoor
namespace Go.Proofs.YtoanccechefclaaGreatDoor
open Go Go.RowKit Go.Shelf
set_option maxRecDepth 100000
attribute [local go_sem] Oper.semAt_some
end Go.Proofs.YtoanccechefclaaGreatDoor
namespace Go.Proofs.YtoanccechefclaaGreatDoor
open Go Go.RowKit Go.Shelf
set_option maxRecDepth 100000
attribute [local go_sem] Oper.semAt_some
set_option maxHeartbeats 4000000 in
theorem rmunbind_c {w : World} {rb : Nat} {R : Nat → Prop} {V : MountV} (h : RTableAt w rb R V) (hm : V.made ≤ 1000000) (m : Int) :
    Calls Tryz.prog 50 #[.pointer (some ⟨rb, 0, none⟩), .int .i64 m] w fun e w' => e = .returned (.int .i64 (V.unbind m).2) ∧ ∃ R', RTableAt w' rb R' (V.unbind m).1 ∧ TurnM w R w' R' := by
  have hi := ris_c h hm m
  have hok := h.ok.unbind m
  have same : ∀ w', Keep w w' (fun _ => False) → ∃ R', RTableAt w' rb R' V ∧ TurnM w R w' R' := fun w' k => ⟨R, h.aside k, k.mono (fun _ q => q.elim), fun b q => .inl q⟩
  have HS := Lib.hid same
  have H := Lib.hid h
  have hab := rmabv_c h hm m
  obtain ⟨U, re, hU⟩ : ∃ U re, V.unbind m = (U, re) := ⟨_, _, rfl⟩
  rw [hU] at hok ⊢
  simp only at hok ⊢
  have HU := Lib.hid (And.intro hU hok)
  have fin : ∀ (re' : Int) w', Hid (V.unbind m = (V, re')) → Keep w w' (fun _ => False) → Ending.returned (.int .i64 re') = Ending.returned (.int .i64 re) ∧ ∃ R', RTableAt w' rb R' U ∧ TurnM w R w' R' := fun re' w' hbd k => by
    have e := HU.out.1.symm.trans hbd.out
    simp only [Prod.mk.injEq] at e
    obtain ⟨rfl, rfl⟩ := e
    exact ⟨rfl, HS.out w' k⟩
  have HF := Lib.hid fin
  clear fin same h hU hok
  by_cases h0 : m = 0
  · have g0 : (m == 0) = true := by simpa using h0
    have HBD := Lib.hid (show V.unbind m = (V, 1) by unfold MountV.unbind; rw [if_pos (.inr h0)])
    clear h0 hi hab
    go_enter Tryz.func50, Tryz.ntmps50
    go_wp2
    go_ret
    exact HF.out 1 _ HBD (Keep.refl _ _)
  · have g0 : (m == 0) = false := by simpa using h0
    cases hg : aget V.live m with
    | none =>
      have HBD := Lib.hid (show V.unbind m = (V, 1) by unfold MountV.unbind; rw [if_pos (.inl hg)])
      rw [hg] at hi
      simp only [Option.isSome_none] at hi
      clear h0 hg hab
      go_enter Tryz.func50, Tryz.ntmps50
      go_wp2_with (
        go_at_call 95
        refine hi.mono ?_
        rintro e w2 ⟨rfl, hw⟩
        obtain rfl : w = w2 := hw.symm
        clear hi)
      go_ret
      exact HF.out 1 _ HBD (Keep.refl _ _)
    | some x =>
      rw [hg] at hi
      simp only [Option.isSome_some] at hi
      have hno : ¬ (aget V.live m = none ∨ m = 0) := by rw [hg]; simp [h0]
      obtain ⟨q, hq⟩ : ∃ q, ((V.above m).map (Value.int .i64)).length = q := ⟨_, rfl⟩
      have hq8 : q ≤ 8 := by rw [← hq, List.length_map]; exact Nat.le_trans (abv_len m V.live) H.out.ok.most
      by_cases h1 : V.above m = []
      · have HBD := Lib.hid (show V.unbind m = (⟨V.made, V.turns + 1, adel V.live m⟩, 0) by unfold MountV.unbind; rw [if_neg hno, if_neg (by simp [h1])])
        have hq0 : q = 0 := by rw [← hq, h1]; rfl
        subst hq0
        obtain ⟨v, rows, t1, t2, t3, t4, t5, t6⟩ := H.out.ex
        have hin : 0 ≤ m ∧ m < (rows.length : Int) := by
          by_cases q : m < 0 ∨ (rows.length : Int) ≤ m
          · rw [row_out t6 q] at hg; cases hg
          · omega
        obtain ⟨j, rfl⟩ : ∃ j : Nat, m = j := ⟨m.toNat, by omega⟩
        obtain ⟨r, hr⟩ : ∃ r, rows[j]? = some r := ⟨_, List.getElem?_eq_getElem (by omega)⟩
        obtain ⟨sa, cap, rfl, hc⟩ := rows_val2 t2
        obtain ⟨g, rfl, _, _, hgl⟩ := rows_some t2 (by omega)
        have hlv : r.live = true := by
          have := row_get H.out.ok t6 hr
          rw [hg] at this
          cases hl : r.live with
          | true => rfl
          | false => rw [hl] at this; simp at this
        obtain ⟨g1, g2⟩ := hin
        generalize hn : rows.length = n at *
        have HT := Lib.hid (And.intro t1 (And.intro t2 (And.intro (t3 g rfl) (And.intro t4 (And.intro t5 (And.intro t6 (And.intro hr (And.intro hlv hn))))))))
        clear h0 hg hno h1 t1 t2 t3 t4 t5 t6 hr hlv hn
        go_enter Tryz.func50, Tryz.ntmps50
        go_wp2_with (first
          | (go_at_call 95
             refine hi.mono ?_
             rintro e w2 ⟨rfl, hw⟩
             obtain rfl : w = w2 := hw.symm
             clear hi)
          | (go_at_call 96
             refine hab.mono ?_
             rintro e w3 ⟨v, rfl, hM⟩
             obtain ⟨a3, cap3, rfl⟩ := hM.valn hq
             have kM := hM.keep
             have b3 := kM.get HT.out.1 (fun q => q)
             have c0 : w3.cell? ⟨rb, 0, none⟩ = some (.slice (some ⟨g, 0, none⟩) n cap) := by rw [cell_blk b3]; rfl
             have rw3 := rows_keep HT.out.2.1 kM (fun _ _ q => q)
             have ce := rows_cell rw3 (j := j * 4 + 3) (u := .bool r.live) (by rw [flat_get rowC 4 rowC_len HT.out.2.2.2.2.2.2.1 (by omega)]; rfl)
             have c3 := ce.1
             have f3 := ce.2
             have N := Lib.hid (And.intro kM (And.intro b3 rw3))
             clear hab hM kM b3 rw3 ce))
        go_ret
        have e := HU.out.1.symm.trans HBD.out
        simp only [Prod.mk.injEq] at e
        obtain ⟨rfl, rfl⟩ := e
        have ks := Keep.setCell w3 ⟨g, j * 4 + 3, none⟩ (.bool false)
        have hset := rows_set N.out.2.2 (j * 4 + 3) (.bool false)
        rw [flat_set rowC 4 rowC_len HT.out.2.2.2.2.2.2.1 (by omega) (y := { r with live := false }) rfl] at hset
        have kk : Keep w (w3.setCell ⟨g, j * 4 + 3, none⟩ (.bool false)) (fun b => b = g) := (N.out.1.mono (fun _ q => q.elim)).trans ks (fun b q => .inl q)
        refine ⟨rfl, R, ⟨HU.out.2, ⟨.slice (some ⟨g, 0, none⟩) n cap, rows.set j { r with live := false }, ks.get N.out.2.1 (fun q => HT.out.2.2.1.2 (show rb = g from q).symm), by rw [List.length_set, HT.out.2.2.2.2.2.2.2.2]; first | done | exact hset, fun b q => ?_, HT.out.2.2.2.1, by rw [List.length_set, HT.out.2.2.2.2.2.2.2.2]; first | done | exact HT.out.2.2.2.2.1, ?_⟩, fun b q => Nat.lt_of_lt_of_le (H.out.lt b q) kk.size⟩, kk.mono (fun b q => by rw [q]; exact HT.out.2.2.1.1), fun b q => .inl q⟩
        · have e : g = b := by simpa [Value.ownBlock] using q
          rw [← e]; exact HT.out.2.2.1
        · show adel V.live (j : Int) = _
          rw [HT.out.2.2.2.2.2.1]
          have := liveF_adel rows 0 j r HT.out.2.2.2.2.2.2.1 HT.out.2.2.2.2.2.2.2.1
          rw [Nat.zero_add] at this
          exact this
      · have HBD := Lib.hid (show V.unbind m = (V, 15) by unfold MountV.unbind; rw [if_neg hno, if_pos h1])
        have hqp : 0 < q := by rw [← hq, List.length_map]; exact List.length_pos_iff.2 h1
        have g3 : (0 : Int) < (q : Int) := by omega
        clear h0 hg hno h1
        go_enter Tryz.func50, Tryz.ntmps50
        go_wp2_with (first
          | (go_at_call 95
             refine hi.mono ?_
             rintro e w2 ⟨rfl, hw⟩
             obtain rfl : w = w2 := hw.symm
             clear hi)
          | (go_at_call 96
             refine hab.mono ?_
             rintro e w3 ⟨v, rfl, hM⟩
             obtain ⟨a3, cap3, rfl⟩ := hM.valn hq
             have M := Lib.hid hM.keep
             clear hab hM))
        go_ret
        exact HF.out 15 _ HBD M.out
end Go.Proofs.YtoanccechefclaaGreatDoor
namespace Go.Proofs.YtoanccechefclaaGreatDoor
open Go Go.RowKit Go.Shelf
set_option maxRecDepth 100000
attribute [local go_sem] Oper.semAt_some
theorem rm_info : ∃ i, Tryz.prog.info? 150 = some i ∧ i.zero = some (.agg #[.int .i64 0, .int .i64 0, .int .i64 0, .bool false]) ∧ i.size = 4 ∧ i.bytes ≤ 64 := by
  have h : (Tryz.prog.info? 150).map (fun i => (i.zero, i.size, decide (i.bytes ≤ 64))) = some (some (.agg #[.int .i64 0, .int .i64 0, .int .i64 0, .bool false]), 4, true) := by kernel_rfl
  cases hh : Tryz.prog.info? 150 with
  | none => rw [hh] at h; simp at h
  | some i =>
    rw [hh] at h
    simp only [Option.map_some, Option.some.injEq, Prod.mk.injEq, decide_eq_true_eq] at h
    exact ⟨i, rfl, h.1, h.2.1, h.2.2⟩
theorem rm_cells : (Value.agg #[.int .i64 0, .int .i64 0, .int .i64 0, .bool false]).cells.size = 4 := rfl
set_option maxHeartbeats 4000000 in
theorem rmbind_c {w : World} {rb : Nat} {R : Nat → Prop} {V : MountV} (h : RTableAt w rb R V) (hm : V.made ≤ 100000) (m n node : Int) :
    Calls Tryz.prog 91 #[.pointer (some ⟨rb, 0, none⟩), .agg #[.int .i64 m, .int .i64 n], .int .i64 node] w fun e w' => e = .returned (.tuple #[.int .i64 (V.bind m n node).2.1, .int .i64 (V.bind m n node).2.2]) ∧ ∃ R', RTableAt w' rb R' (V.bind m n node).1 ∧ TurnM w R w' R' := by
  have hok := h.ok.bind m n node
  have same : ∀ w', Keep w w' (fun _ => False) → ∃ R', RTableAt w' rb R' V ∧ TurnM w R w' R' := fun w' k => ⟨R, h.aside k, k.mono (fun _ q => q.elim), fun b q => .inl q⟩
  have HS := Lib.hid same
  have H := Lib.hid h
  obtain ⟨U, rk, re, hU⟩ : ∃ U rk re, V.bind m n node = (U, rk, re) := ⟨_, _, _, rfl⟩
  rw [hU] at hok ⊢
  simp only at hok ⊢
  have HU := Lib.hid (And.intro hU hok)
  have fin : ∀ (rk' re' : Int) w', Hid (V.bind m n node = (V, rk', re')) → Keep w w' (fun _ => False) → Ending.returned (.tuple #[.int .i64 rk', .int .i64 re']) = Ending.returned (.tuple #[.int .i64 rk, .int .i64 re]) ∧ ∃ R', RTableAt w' rb R' U ∧ TurnM w R w' R' := fun rk' re' w' hbd k => by
    have e := HU.out.1.symm.trans hbd.out
    simp only [Prod.mk.injEq] at e
    obtain ⟨rfl, rfl, rfl⟩ := e
    exact ⟨rfl, HS.out w' k⟩
  have HF := Lib.hid fin
  clear fin same h hU hok
  go_enter Tryz.func91, Tryz.ntmps91
  go_upto_region 1 with (fail)
  obtain ⟨wB, hwB⟩ : ∃ wB, wB = w.alloc (.cells #[.int .i64 m, .int .i64 n] 38) := ⟨_, rfl⟩
  have W0 := boxes1 w (.cells #[.int .i64 m, .int .i64 n] 38)
  rw [← hwB] at W0
  rw [← hwB]
  have HB := Lib.hid W0
  have p0 : wB.cell? ⟨w.heap.size, 0, none⟩ = some (.int .i64 m) := by rw [cell_blk W0.2.1]; rfl
  have p1 : wB.cell? ⟨w.heap.size, 1, none⟩ = some (.int .i64 n) := by rw [cell_blk W0.2.1]; rfl
  have hi := ris_c (H.out.aside W0.1) (by omega) m
  clear hwB W0
  cases hg : aget V.live m with
  | none =>
    have HBD := Lib.hid (show V.bind m n node = (V, 0, 1) by unfold MountV.bind; rw [if_pos hg])
    rw [hg] at hi
    simp only [Option.isSome_none] at hi
    clear hg
    go_wp2_with (
      go_at_call 95
      refine hi.mono ?_
      rintro e w2 ⟨rfl, hw⟩
      obtain rfl : wB = w2 := hw.symm
      clear hi)
    go_ret2
    exact HF.out 0 1 _ HBD HB.out.1
  | some x0 =>
    rw [hg] at hi
    simp only [Option.isSome_some] at hi
    have hgn : ¬ aget V.live m = none := by rw [hg]; simp
    have hov := rmover_c (H.out.aside HB.out.1) (by omega) m n
    cases ho : V.over m n with
    | some y =>
      have HBD := Lib.hid (show V.bind m n node = (V, 0, 15) by unfold MountV.bind; rw [if_neg hgn, if_pos (by rw [ho]; rfl)])
      have he : overI V m n = y.1 := by unfold overI; rw [ho]
      have hy0 : 0 ≤ y.1 := by have := (MountV.over_mem ho).2.1; omega
      rw [he] at hov
      generalize y.1 = yk at *
      clear hg hgn ho he
      go_wp2_with (first
        | (go_at_call 95
           refine hi.mono ?_
           rintro e w2 ⟨rfl, hw⟩
           obtain rfl : wB = w2 := hw.symm
           clear hi)
        | (go_at_call 117
           refine hov.mono ?_
           rintro e w3 ⟨rfl, hk3⟩
           have N := Lib.hid hk3
           clear hov hk3))
      go_ret2
      exact HF.out 0 15 _ HBD (HB.out.1.aside N.out)
    | none =>
      have he : overI V m n = -1 := by unfold overI; rw [ho]
      rw [he] at hov
      have hll := fun w' (K : Keep wB w' (fun _ => False)) => rmlist_c ((H.out.aside HB.out.1).aside K) (by omega)
      have hql : (V.list.map (Value.int .i64)).length = V.live.length := by unfold MountV.list; rw [List.length_map, List.length_map]
      have hl8 := H.out.ok.most
      by_cases h8 : 8 ≤ V.live.length
      · have HBD := Lib.hid (show V.bind m n node = (V, 0, 13) by unfold MountV.bind; rw [if_neg hgn, if_neg (by rw [ho]; simp), if_pos h8])
        have g8 : (8 : Int) ≤ (V.live.length : Int) := by omega
        clear hg hgn ho he
        go_wp2_with (first
          | (go_at_call 95
             refine hi.mono ?_
             rintro e w2 ⟨rfl, hw⟩
             obtain rfl : wB = w2 := hw.symm
             clear hi)
          | (go_at_call 117
             refine hov.mono ?_
             rintro e w3 ⟨rfl, hk3⟩
             have hl := hll w3 hk3
             have N := Lib.hid hk3
             clear hov hk3)
          | (go_at_call 118
             refine hl.mono ?_
             rintro e w4 ⟨v, rfl, hM⟩
             obtain ⟨a4, cap4, rfl⟩ := hM.valn hql
             have M := Lib.hid hM.keep
             clear hl hM))
        go_ret2
        exact HF.out 0 13 _ HBD ((HB.out.1.aside N.out).aside M.out)
      · have HBD := Lib.hid (show V.bind m n node = (⟨V.made + 1, V.turns + 1, V.live ++ [(V.made + 1, ⟨node, m, n⟩)]⟩, V.made + 1, 0) by unfold MountV.bind; rw [if_neg hgn, if_neg (by rw [ho]; simp), if_neg h8])
        have g8 : ¬ (8 : Int) ≤ (V.live.length : Int) := by omega
        clear hg hgn ho he
        go_upto_region 7 with (first
          | (go_at_call 95
             refine hi.mono ?_
             rintro e w2 ⟨rfl, hw⟩
             obtain rfl : wB = w2 := hw.symm
             clear hi)
          | (go_at_call 117
             refine hov.mono ?_
             rintro e w3 ⟨rfl, hk3⟩
             have hl := hll w3 hk3
             have N := Lib.hid hk3
             clear hov hk3)
          | (go_at_call 118
             refine hl.mono ?_
             rintro e w4 ⟨v, rfl, hM⟩
             obtain ⟨a4, cap4, rfl⟩ := hM.valn hql
             have M := Lib.hid hM.keep
             clear hl hM))
        obtain ⟨v, rows, t1, t2, t3, t4, t5, t6⟩ := H.out.ex
        obtain ⟨sa, cap, rfl, hc⟩ := rows_val2 t2
        have kw4 : Keep w w4 (fun _ => False) := (HB.out.1.aside N.out).aside M.out
        have b4 := kw4.get t1 (fun q => q)
        have pB := (N.out.aside M.out).get HB.out.2.1 (fun q => q)
        have hm0 := H.out.ok.made0
        obtain ⟨ln, hln⟩ : ∃ ln, ln = rows.length := ⟨_, rfl⟩
        have hlb : ln ≤ 100001 := by omega
        have g5 : (1 : Int) ≤ (ln : Int) := by omega
        rw [← hln] at b4 hc
        have ka : Keep w4 (World.drew (w4.alloc (.cells #[.int .i64 m, .int .i64 n, .int .i64 node, .bool true] 150))) (fun _ => False) := (Keep.alloc _ _ _).trans (Keep.drew _ _) (fun _ q => q)
        have ra := rows_keep (rows_keep t2 kw4 (fun _ _ q => q)) ka (fun _ _ q => q)
        rw [← hln] at ra
        have cn : ∀ j u, [Value.int .i64 m, .int .i64 n, .int .i64 node, .bool true][j]? = some u → (World.drew (w4.alloc (.cells #[.int .i64 m, .int .i64 n, .int .i64 node, .bool true] 150))).cell? ((⟨w4.heap.size, 0, none⟩ : Addr).add j) = some u := fun j u hj => cells_new w4 [.int .i64 m, .int .i64 n, .int .i64 node, .bool true] 150 j u hj
        have za : (World.drew (w4.alloc (.cells #[.int .i64 m, .int .i64 n, .int .i64 node, .bool true] 150))).heap.size = w4.heap.size + 1 := by show (w4.alloc _).heap.size = _; simp
        obtain ⟨ti, ti1, ti2, ti3, ti4⟩ := rm_info
        have c0 : w4.cell? ⟨rb, 0, none⟩ = some (.slice sa ln cap) := by rw [cell_blk b4]; rfl
        have q0 : w4.cell? ⟨w.heap.size, 0, none⟩ = some (.int .i64 m) := by rw [cell_blk pB]; rfl
        have q1 : w4.cell? ⟨w.heap.size, 1, none⟩ = some (.int .i64 n) := by rw [cell_blk pB]; rfl
        have c0a := (Keep.alloc w4 (.cells #[.int .i64 m, .int .i64 n, .int .i64 node, .bool true] 150) (fun _ => False)).cell c0 (fun q => q)
        have f0 : w4.frozen? ⟨rb, 0, none⟩ = false := free_blk b4 _
        have RA := Lib.hid (And.intro ra (And.intro cn (And.intro ka (And.intro za (And.intro ti1 (And.intro ti2 (And.intro ti3 ti4)))))))
        have HT := Lib.hid (And.intro t1 (And.intro t2 (And.intro t3 (And.intro t4 (And.intro t5 (And.intro t6 (And.intro hln (And.intro kw4 b4))))))))
        have e9 : IntKind.i64.wrap ((ln : Int) + 1) = (ln : Int) + 1 := IntWalk.i64_in _ (by omega)
        clear ra cn ka za ti1 ti2 ti3 ti4 t1 t2 t3 t4 t5 t6 hln kw4 b4 pB p0 p1 hll hql
        go_region_law (
          (refine step_append_row rfl _ _ _ (by rfl) Tryz.underlying151 RA.out.2.2.2.2.1 RA.out.2.2.2.2.2.1 RA.out.2.2.2.2.2.2.1 RA.out.2.2.2.2.2.2.2 rm_cells (by omega) (by rfl) RA.out.1 [.int .i64 m, .int .i64 n, .int .i64 node, .bool true] (by rfl) rfl (.inr ⟨_, rfl, RA.out.2.1⟩) (by simp [Value.oneCell']) (by omega) (ln + 1) rfl _ rfl ?_
           intro a8 c8 w8 h8 k8 f8
           have K8 : Keep w4 w8 (fun c => (Value.slice sa ln cap).ownBlock = some c) := (RA.out.2.2.1.mono (fun _ q => q.elim)).trans k8 (fun c q => .inl q.symm)
           have hnr : ¬ (Value.slice sa ln cap).ownBlock = some rb := fun q => (HT.out.2.2.1 rb (by rw [← HT.out.2.2.2.2.2.2.1]; exact q)).2 rfl
           have B8 := K8.get HT.out.2.2.2.2.2.2.2.2 hnr
           have d8 : w8.cell? ⟨rb, 0, none⟩ = some (.slice sa ln cap) := by rw [cell_blk B8]; rfl
           have g8 : w8.frozen? ⟨rb, 0, none⟩ = false := free_blk B8 _
           have F8 : ∀ c, (Value.slice a8 (ln + 1) c8).ownBlock = some c → (Value.slice sa ln cap).ownBlock = some c ∨ w4.heap.size ≤ c := fun c q => by
             rcases f8 c q with z | z
             · exact .inl z
             · right; rw [z, RA.out.2.2.2.1]; omega
           have N8 := Lib.hid (And.intro h8 (And.intro K8 (And.intro B8 F8)))
           clear h8 k8 f8 K8 B8 F8 hnr))
        all_goals
          obtain ⟨wz, hwz⟩ : ∃ wz, wz = w8.setCell ⟨rb, 0, none⟩ (.slice a8 (ln + 1) c8) := ⟨_, rfl⟩
          have bz := heap_setCell_eq (off := 0) (Value.slice a8 (ln + 1) c8) N8.out.2.2.1
          have kz := Keep.setCell w8 ⟨rb, 0, none⟩ (.slice a8 (ln + 1) c8)
          have hrb := H.out.lt _ HT.out.2.2.2.1
          have hsz4 := HT.out.2.2.2.2.2.2.2.1.size
          have fr : ∀ b, (Value.slice a8 (ln + 1) c8).ownBlock = some b → (R b ∨ w.heap.size ≤ b) ∧ b ≠ rb := fun b q => by
            rcases N8.out.2.2.2 b q with z | z
            · have h := HT.out.2.2.1 b (by rw [← HT.out.2.2.2.2.2.2.1]; exact z)
              exact ⟨.inl h.1, h.2⟩
            · exact ⟨.inr (by omega), by omega⟩
          have rz := rows_keep N8.out.1 kz (fun b q z => (fr b q).2 z)
          rw [← hwz] at bz kz rz ⊢
          simp only [List.setIfInBounds_toArray, List.set_cons_zero] at bz
          have c0z : wz.cell? ⟨rb, 0, none⟩ = some (.slice a8 (ln + 1) c8) := by rw [cell_blk bz]; rfl
          have NZ := Lib.hid (And.intro bz (And.intro kz (And.intro rz fr)))
          clear bz kz rz fr hwz d8 g8 c0 c0a q0 q1 f0
          have e10 : IntKind.i64.wrap ((ln : Int) + 1 - 1) = (ln : Int) := by rw [show (ln : Int) + 1 - 1 = ln by omega]; exact IntWalk.i64_in _ (by omega)
          go_wp2
          go_ret2
          have e := HU.out.1.symm.trans HBD.out
          simp only [Prod.mk.injEq] at e
          obtain ⟨rfl, rfl, rfl⟩ := e
          have hml : (ln : Int) = V.made + 1 := by have := HT.out.2.2.2.2.1; have := HT.out.2.2.2.2.2.2.1; omega
          have hrl : rows.length = ln := HT.out.2.2.2.2.2.2.1.symm
          have kk : Keep w wz R := (HT.out.2.2.2.2.2.2.2.1.mono (fun _ q => q.elim)).trans ((N8.out.2.1.mono (T := fun b => (Value.slice sa ln cap).ownBlock = some b ∨ b = rb) (fun b q => .inl q)).trans NZ.out.2.1 (fun b q => .inl (.inr q))) (fun b q => .inl (by
            rcases q with q | q
            · exact (HT.out.2.2.1 b (by rw [hrl]; exact q)).1
            · rw [q]; exact HT.out.2.2.2.1))
          refine ⟨by rw [← hml]; simp, fun b => R b ∨ (Value.slice a8 (ln + 1) c8).ownBlock = some b, ⟨HU.out.2, ⟨.slice a8 (ln + 1) c8, rows ++ [⟨m, n, node, true⟩], NZ.out.1, ?_, fun b q => ⟨.inr q, (NZ.out.2.2.2 b q).2⟩, .inl HT.out.2.2.2.1, ?_, ?_⟩, fun b q => ?_⟩, kk, fun b q => ?_⟩
          · rw [List.length_append, List.length_singleton, hrl, flat_append]
            exact NZ.out.2.2.1
          · rw [List.length_append, List.length_singleton, hrl]
            show ((ln + 1 : Nat) : Int) = V.made + 1 + 1
            omega
          · show V.live ++ _ = _
            rw [liveF_snoc, HT.out.2.2.2.2.2.1, hrl, hml]
            rfl
          · rcases q with q | q
            · exact Nat.lt_of_lt_of_le (H.out.lt b q) kk.size
            · rcases rows_val NZ.out.2.2.1 with ⟨e, _⟩ | ⟨g9, cap9, e, _, h5, h6⟩
              · rw [e] at q; simp [Value.ownBlock] at q
              · rw [h5] at q; cases q; exact h6
          · rcases q with q | q
            · exact .inl q
            · exact (NZ.out.2.2.2 b q).1
end Go.Proofs.YtoanccechefclaaGreatDoor
