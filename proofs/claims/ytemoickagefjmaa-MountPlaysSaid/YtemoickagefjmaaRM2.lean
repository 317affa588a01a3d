/-
  The document's mounts: Covered, List, Above.
-/
import Derived.Test.YtemoickagefjmaaRM1
namespace Go.Proofs.Ytemoickagefjmaa
open Go Go.RowKit Go.Shelf
set_option linter.unusedSectionVars false
set_option linter.unusedSimpArgs false
set_option linter.unusedVariables false
set_option maxRecDepth 100000
attribute [local go_sem] Oper.semAt_some

theorem covAt_row (n : Int) (k : Nat) (r : RowM) : covAt n ((k : Int), r.val) = (decide (0 < k) && decide (r.an = n)) := by
  unfold covAt RowM.val
  have : decide ((0 : Int) < (k : Int)) = decide (0 < k) := decide_eq_decide.2 (by omega)
  simp only [this]

theorem take_live {rows : List RowM} {k : Nat} {r : RowM} (hr : rows[k]? = some r) : liveF 0 (rows.take (k + 1)) = liveF 0 (rows.take k) ++ if r.live then [((k : Int), r.val)] else [] := by
  have hk : k < rows.length := (List.getElem?_eq_some_iff.1 hr).1
  rw [List.take_add_one, hr, Option.toList_some, liveF_snoc, List.length_take, Nat.min_eq_left (by omega)]

set_option maxHeartbeats 2000000 in
theorem rmcov_c {w : World} {rb : Nat} {R : Nat → Prop} {V : MountV} (h : RTableAt w rb R V) (hm : V.made ≤ 1000000) (n : Int) :
    Calls Try.prog 48 #[.pointer (some ⟨rb, 0, none⟩), .int .i64 n] w fun e w' => e = .returned (.bool (V.covered n)) ∧ Keep w w' (fun _ => False) := by
  obtain ⟨v, rows, h1, h2, h3, h4, h5, h6⟩ := h.ex
  obtain ⟨sa, cap, rfl, hc⟩ := rows_val2 h2
  have H := Lib.hid (And.intro h1 (And.intro h2 h6))
  have hl := h5
  have hm0 := h.ok.made0
  obtain ⟨ln, hln⟩ : ∃ ln, ln = rows.length := ⟨_, rfl⟩
  have hlb : ln ≤ 1000001 := by omega
  have hl1 : 1 ≤ ln := by omega
  rw [← hln] at hc
  have HL := Lib.hid hln
  have e0 : (Value.slice sa rows.length cap) = .slice sa ln cap := by rw [hln]
  rw [e0] at H
  rw [← hln] at H
  clear h h1 h2 h3 h4 h5 h6 hl hm hm0 hln e0
  obtain ⟨z, hz⟩ : ∃ z, V.covered n = z := ⟨_, rfl⟩
  rw [hz]
  have HZ := Lib.hid hz
  clear hz
  go_enter Try.func48, Try.ntmps48
  go_wp2
  go_loopg [5] (ln - 1) (fun g s5 wr => ∃ k : Nat, s5 = .int .i64 k ∧ 1 ≤ k ∧ k + g = ln ∧ (∀ y ∈ liveF 0 (rows.take k), covAt n y = false) ∧ Keep w wr (fun _ => False))
  case atStart =>
    refine ⟨1, rfl, by omega, by omega, fun y hy => ?_, Keep.refl _ _⟩
    obtain ⟨j, r, h1, h2, rfl⟩ := (mem_liveF _ _ _).1 hy
    have : j = 0 := by
      have := (List.getElem?_eq_some_iff.1 h1).1
      rw [List.length_take] at this
      omega
    subst this
    simp [covAt]
  case round =>
    obtain ⟨k, rfl, hk1, hk, hno, hkeep⟩ := hrel
    have c0 : wr.cell? ⟨rb, 0, none⟩ = some (.slice sa ln cap) := by rw [cell_blk (hkeep.get H.out.1 (fun q => q))]; rfl
    have HN := Lib.hid (And.intro hno hkeep)
    clear hno
    by_cases hlt : k < ln
    · have g1 : (k : Int) < (ln : Int) := by omega
      have g2 : (0 : Int) ≤ (k : Int) := by omega
      obtain ⟨r, hr⟩ : ∃ r, rows[k]? = some r := ⟨_, List.getElem?_eq_getElem (by have := HL.out; omega)⟩
      have hrow := rows_keep H.out.2.1 hkeep (fun _ _ q => q)
      obtain ⟨g, rfl, _, _, _⟩ := rows_some hrow (by omega)
      have c2 : wr.cell? ⟨g, k * 4 + 1, none⟩ = some (.int .i64 r.an) := (rows_cell hrow (by rw [flat_get rowC 4 rowC_len hr (by omega)]; rfl)).1
      have c3 : wr.cell? ⟨g, k * 4 + 3, none⟩ = some (.bool r.live) := (rows_cell hrow (by rw [flat_get rowC 4 rowC_len hr (by omega)]; rfl)).1
      have HR := Lib.hid (take_live hr)
      clear hrow hr hkeep
      have go_on : covAt n ((k : Int), r.val) = false ∨ r.live = false → ∀ y ∈ liveF 0 (rows.take (k + 1)), covAt n y = false := fun q y hy => by
        rw [HR.out] at hy
        rcases List.mem_append.1 hy with hy | hy
        · exact HN.out.1 y hy
        · split at hy
          · rename_i hlv
            rw [List.mem_singleton.1 hy]
            exact q.resolve_right (by rw [hlv]; simp)
          · cases hy
      have GO := Lib.hid go_on
      clear go_on
      obtain ⟨ra, rn, rnode, rlive⟩ := r
      simp only at c2 c3
      cases rlive with
      | false =>
        go_wp2
        go_roundg (ln - (k + 1))
        case measure => omega
        case rel => exact ⟨k + 1, by go_num, by omega, by omega, GO.out (.inr (by first | rfl | trivial)), HN.out.2⟩
      | true =>
        by_cases he : rn = n
        · have hov : V.covered n = true := by
            unfold MountV.covered
            rw [List.any_eq_true, H.out.2.2]
            refine ⟨((k : Int), RowM.val ⟨ra, rn, rnode, true⟩), ?_, ?_⟩
            · have e := HR.out
              rw [if_pos rfl] at e
              have hmem : ((k : Int), RowM.val ⟨ra, rn, rnode, true⟩) ∈ liveF 0 (rows.take (k + 1)) := by rw [e]; simp
              have e2 : rows = rows.take (k + 1) ++ rows.drop (k + 1) := (List.take_append_drop _ _).symm
              rw [e2, liveF_append]
              exact List.mem_append_left _ hmem
            · have := covAt_row n k ⟨ra, rn, rnode, true⟩
              unfold covAt at this
              rw [this]
              simp [he]; omega
          have HZ2 := Lib.hid (HZ.out.symm.trans hov)
          have g3 : (rn == n) = true := by simpa using he
          clear hov he GO
          go_wp2
          go_ret
          exact ⟨by rw [HZ2.out]; rfl, HN.out.2⟩
        · have HNO := Lib.hid (show covAt n ((k : Int), RowM.val ⟨ra, rn, rnode, true⟩) = false by rw [covAt_row]; simp [he])
          have g3 : (rn == n) = false := by simpa using he
          clear he
          go_wp2
          go_roundg (ln - (k + 1))
          case measure => omega
          case rel => exact ⟨k + 1, by go_num, by omega, by omega, GO.out (.inl HNO.out), HN.out.2⟩
    · have g1 : ¬ (k : Int) < (ln : Int) := by omega
      have hov : V.covered n = false := by
        unfold MountV.covered
        rw [List.any_eq_false, H.out.2.2]
        intro y hy
        have := HN.out.1 y (by rw [List.take_of_length_le (by have := HL.out; omega)]; exact hy)
        unfold covAt at this
        rw [this]
        simp
      have HZ2 := Lib.hid (HZ.out.symm.trans hov)
      clear hov
      go_wp2
      go_ret
      exact ⟨by rw [HZ2.out]; rfl, HN.out.2⟩

theorem int_info2 : ∃ i, Try.prog.info? 3 = some i ∧ i.zero = some (.int .i64 0) ∧ i.size = 1 ∧ i.bytes ≤ 64 := by
  have h : (Try.prog.info? 3).map (fun i => (i.zero, i.size, i.bytes)) = some (some (.int .i64 0), 1, 8) := by kernel_rfl
  cases hh : Try.prog.info? 3 with
  | none => rw [hh] at h; simp at h
  | some i =>
    rw [hh] at h
    simp only [Option.map_some, Option.some.injEq, Prod.mk.injEq] at h
    exact ⟨i, rfl, h.1, h.2.1, by omega⟩

theorem liveF_len : ∀ (l : List RowM) (i : Nat), (liveF i l).length ≤ l.length
  | [], i => by simp [liveF]
  | r :: l, i => by
    have := liveF_len l (i + 1)
    simp only [liveF, List.length_append, List.length_cons]
    split <;> simp <;> omega

set_option maxHeartbeats 2000000 in
theorem rmlist_c {w : World} {rb : Nat} {R : Nat → Prop} {V : MountV} (h : RTableAt w rb R V) (hm : V.made ≤ 1000000) :
    Calls Try.prog 49 #[.pointer (some ⟨rb, 0, none⟩)] w fun e w' => ∃ v, e = .returned v ∧ Made w w' 3 v (V.list.map (Value.int .i64)) := by
  obtain ⟨v, rows, h1, h2, h3, h4, h5, h6⟩ := h.ex
  obtain ⟨sa, cap, rfl, hc⟩ := rows_val2 h2
  have H := Lib.hid (And.intro h1 (And.intro h2 h6))
  have hl := h5
  have hm0 := h.ok.made0
  obtain ⟨ln, hln⟩ : ∃ ln, ln = rows.length := ⟨_, rfl⟩
  have hlb : ln ≤ 1000001 := by omega
  rw [← hln] at hc
  have HL := Lib.hid hln
  have e0 : (Value.slice sa rows.length cap) = .slice sa ln cap := by rw [hln]
  rw [e0] at H
  rw [← hln] at H
  obtain ⟨ti, ti1, ti2, ti3, ti4⟩ := int_info2
  have HI := Lib.hid (And.intro ti1 (And.intro ti2 (And.intro ti3 ti4)))
  have hz1 : (Value.int .i64 0).cells.size = 1 := rfl
  clear h h1 h2 h3 h4 h5 h6 hl hm hm0 hln e0 ti1 ti2 ti3 ti4
  go_enter Try.func49, Try.ntmps49
  go_wp2
  go_loopg [3, 4] ln (fun g s3 s4 wr => ∃ k : Nat, s4 = .int .i64 k ∧ k + g = ln ∧ Made w wr 3 s3 (((liveF 0 (rows.take k)).map Prod.fst).map (Value.int .i64)))
  case atStart => exact ⟨0, rfl, by omega, by simpa [liveF] using Made.nil w 3⟩
  case round =>
    obtain ⟨k, rfl, hk, hM⟩ := hrel
    have c0 : wr.cell? ⟨rb, 0, none⟩ = some (.slice sa ln cap) := by rw [cell_blk (hM.keep.get H.out.1 (fun q => q))]; rfl
    obtain ⟨q, hq⟩ : ∃ q, (((liveF 0 (rows.take k)).map Prod.fst).map (Value.int .i64)).length = q := ⟨_, rfl⟩
    have hql : q ≤ ln := by
      rw [← hq, List.length_map, List.length_map]
      have := liveF_len (rows.take k) 0
      rw [List.length_take] at this
      omega
    have M := Lib.hid (And.intro hM hq)
    obtain ⟨a3, cap3, rfl⟩ := hM.valn hq
    by_cases hlt : k < ln
    · have g1 : (k : Int) < (ln : Int) := by omega
      have g2 : (0 : Int) ≤ (k : Int) := by omega
      obtain ⟨r, hr⟩ : ∃ r, rows[k]? = some r := ⟨_, List.getElem?_eq_getElem (by have := HL.out; omega)⟩
      have hrow := rows_keep H.out.2.1 hM.keep (fun _ _ q => q)
      obtain ⟨g, rfl, _, _, _⟩ := rows_some hrow (by omega)
      have c3 : wr.cell? ⟨g, k * 4 + 3, none⟩ = some (.bool r.live) := (rows_cell hrow (by rw [flat_get rowC 4 rowC_len hr (by omega)]; rfl)).1
      have HR := Lib.hid (take_live hr)
      clear hrow hr hM hq
      obtain ⟨ra, rn, rnode, rlive⟩ := r
      simp only at c3
      cases rlive with
      | false =>
        go_wp2
        go_roundg (ln - (k + 1))
        case measure => omega
        case rel => exact ⟨k + 1, by go_num, by omega, by rw [HR.out]; simpa using M.out.1⟩
      | true =>
        go_wp2_with (
          at_builtin
          refine law_push rfl _ _ _ rfl Try.underlying59 HI.out.1 HI.out.2.1 HI.out.2.2.1 HI.out.2.2.2 hz1 M.out.1 rfl (.int .i64 k) rfl rfl M.out.2 (by omega) ?_
          intro a8 cap8 w8 hM8 _ _
          have M8 := Lib.hid hM8
          clear hM8)
        go_roundg (ln - (k + 1))
        case measure => omega
        case rel => exact ⟨k + 1, by go_num, by omega, by rw [HR.out]; simpa using M8.out⟩
    · have g1 : ¬ (k : Int) < (ln : Int) := by omega
      clear hM hq
      go_wp2
      go_ret
      refine ⟨_, rfl, ?_⟩
      unfold MountV.list
      have := M.out.1
      rw [List.take_of_length_le (by have := HL.out; omega), ← H.out.2.2] at this
      exact this

set_option maxHeartbeats 2000000 in
theorem rmabv_c {w : World} {rb : Nat} {R : Nat → Prop} {V : MountV} (h : RTableAt w rb R V) (hm : V.made ≤ 1000000) (m : Int) :
    Calls Try.prog 50 #[.pointer (some ⟨rb, 0, none⟩), .int .i64 m] w fun e w' => ∃ v, e = .returned v ∧ Made w w' 3 v ((V.above m).map (Value.int .i64)) := by
  obtain ⟨v, rows, h1, h2, h3, h4, h5, h6⟩ := h.ex
  obtain ⟨sa, cap, rfl, hc⟩ := rows_val2 h2
  have H := Lib.hid (And.intro h1 (And.intro h2 h6))
  have hl := h5
  have hm0 := h.ok.made0
  obtain ⟨ln, hln⟩ : ∃ ln, ln = rows.length := ⟨_, rfl⟩
  have hlb : ln ≤ 1000001 := by omega
  have hl1 : 1 ≤ ln := by omega
  rw [← hln] at hc
  have HL := Lib.hid hln
  have e0 : (Value.slice sa rows.length cap) = .slice sa ln cap := by rw [hln]
  rw [e0] at H
  rw [← hln] at H
  obtain ⟨ti, ti1, ti2, ti3, ti4⟩ := int_info2
  have HI := Lib.hid (And.intro ti1 (And.intro ti2 (And.intro ti3 ti4)))
  have hz1 : (Value.int .i64 0).cells.size = 1 := rfl
  clear h h1 h2 h3 h4 h5 h6 hl hm hm0 hln e0 ti1 ti2 ti3 ti4
  go_enter Try.func50, Try.ntmps50
  go_wp2
  go_loopg [5, 6] (ln - 1) (fun g s5 s6 wr => ∃ k : Nat, s6 = .int .i64 k ∧ 1 ≤ k ∧ k + g = ln ∧ Made w wr 3 s5 ((abv m (liveF 0 (rows.take k))).map (Value.int .i64)))
  case atStart =>
    refine ⟨1, rfl, by omega, by omega, ?_⟩
    have e : abv m (liveF 0 (rows.take 1)) = [] := by
      unfold abv
      have : (liveF 0 (rows.take 1)).filter (fun x => decide (0 < x.1) && decide (x.2.am = m)) = [] := by
        rw [List.filter_eq_nil_iff]
        intro y hy
        obtain ⟨j, r, h1, h2, rfl⟩ := (mem_liveF _ _ _).1 hy
        have : j = 0 := by
          have := (List.getElem?_eq_some_iff.1 h1).1
          rw [List.length_take] at this
          omega
        subst this
        simp
      rw [this]; rfl
    rw [e]
    exact Made.nil w 3
  case round =>
    obtain ⟨k, rfl, hk1, hk, hM⟩ := hrel
    have c0 : wr.cell? ⟨rb, 0, none⟩ = some (.slice sa ln cap) := by rw [cell_blk (hM.keep.get H.out.1 (fun q => q))]; rfl
    obtain ⟨q, hq⟩ : ∃ q, ((abv m (liveF 0 (rows.take k))).map (Value.int .i64)).length = q := ⟨_, rfl⟩
    have hql : q ≤ ln := by
      rw [← hq, List.length_map]
      have := liveF_len (rows.take k) 0
      have := abv_len m (liveF 0 (rows.take k))
      rw [List.length_take] at *
      omega
    have M := Lib.hid (And.intro hM hq)
    obtain ⟨a3, cap3, rfl⟩ := hM.valn hq
    by_cases hlt : k < ln
    · have g1 : (k : Int) < (ln : Int) := by omega
      have g2 : (0 : Int) ≤ (k : Int) := by omega
      obtain ⟨r, hr⟩ : ∃ r, rows[k]? = some r := ⟨_, List.getElem?_eq_getElem (by have := HL.out; omega)⟩
      have hrow := rows_keep H.out.2.1 hM.keep (fun _ _ q => q)
      obtain ⟨g, rfl, _, _, _⟩ := rows_some hrow (by omega)
      have c1 : wr.cell? ⟨g, k * 4, none⟩ = some (.int .i64 r.am) := (rows_cell hrow (by rw [← Nat.add_zero (k * 4), flat_get rowC 4 rowC_len hr (by omega)]; rfl)).1
      have c3 : wr.cell? ⟨g, k * 4 + 3, none⟩ = some (.bool r.live) := (rows_cell hrow (by rw [flat_get rowC 4 rowC_len hr (by omega)]; rfl)).1
      have HR := Lib.hid (take_live hr)
      clear hrow hr hM hq
      obtain ⟨ra, rn, rnode, rlive⟩ := r
      simp only at c1 c3
      cases rlive with
      | false =>
        go_wp2
        go_roundg (ln - (k + 1))
        case measure => omega
        case rel => exact ⟨k + 1, by go_num, by omega, by omega, by rw [HR.out]; simpa using M.out.1⟩
      | true =>
        by_cases he : ra = m
        · have HE := Lib.hid he
          have g3 : (ra == m) = true := by simpa using he
          clear he
          go_wp2_with (
            at_builtin
            refine law_push rfl _ _ _ rfl Try.underlying59 HI.out.1 HI.out.2.1 HI.out.2.2.1 HI.out.2.2.2 hz1 M.out.1 rfl (.int .i64 k) rfl rfl M.out.2 (by omega) ?_
            intro a8 cap8 w8 hM8 _ _
            have M8 := Lib.hid hM8
            clear hM8)
          go_roundg (ln - (k + 1))
          case measure => omega
          case rel =>
            refine ⟨k + 1, by go_num, by omega, by omega, ?_⟩
            rw [HR.out]; simp only [if_true]; rw [abv_snoc, if_pos (show (0 : Int) < (k : Int) ∧ (RowM.val ⟨ra, rn, rnode, true⟩).am = m from ⟨by omega, HE.out⟩), List.map_append]
            exact M8.out
        · have HE := Lib.hid he
          have g3 : (ra == m) = false := by simpa using he
          clear he
          go_wp2
          go_roundg (ln - (k + 1))
          case measure => omega
          case rel =>
            refine ⟨k + 1, by go_num, by omega, by omega, ?_⟩
            rw [HR.out]; simp only [if_true]; rw [abv_snoc, if_neg (show ¬ ((0 : Int) < (k : Int) ∧ (RowM.val ⟨ra, rn, rnode, true⟩).am = m) from fun z => HE.out z.2), List.append_nil]
            exact M.out.1
    · have g1 : ¬ (k : Int) < (ln : Int) := by omega
      clear hM hq
      go_wp2
      go_ret
      refine ⟨_, rfl, ?_⟩
      have := M.out.1
      rw [List.take_of_length_le (by have := HL.out; omega), ← H.out.2.2] at this
      exact this

end Go.Proofs.Ytemoickagefjmaa
