/-
  name.Clean.
-/
import Derived.Test.YtlbekofkhjkniaaDoorWrite
namespace Go.Proofs.YtlbekofkhjkniaaDoor
open Go Go.RowKit Go.Shelf
set_option linter.unusedSectionVars false
set_option linter.unusedSimpArgs false
set_option linter.unusedVariables false
attribute [local go_sem] Oper.semAt_some

abbrev txV (p : Bl) : Value := .string (txB p)

def noDot (p : Bl) : Bool := decide (p ≠ [46])

/-- What a path is without its single points. -/
def cleanP (l : Bl) : Bl × Int :=
  if (readP l).2 ≠ 0 then ([], (readP l).2)
  else if (readP l).1.2.2.filter noDot = [] ∧ (readP l).1.1 = false then ([46], 0)
  else (writeP (readP l).1.1 (readP l).1.2.1 ((readP l).1.2.2.filter noDot), 0)

theorem sub_sum {ps qs : List Bl} (h : ps.Sublist qs) : (ps.map List.length).sum + ps.length ≤ (qs.map List.length).sum + qs.length := by
  induction h with
  | slnil => simp
  | cons a _ ih => simp; omega
  | cons_cons a _ ih => simp; omega

theorem join_le (ps : List Bl) : (Lib.join ps [47]).length ≤ (ps.map List.length).sum + ps.length := by
  cases ps with
  | nil => simp [Lib.join_nil]
  | cons x r =>
    rw [Lib.join_length]
    have h : Lib.lens (x :: r) = ((x :: r).map List.length).sum := rfl
    rw [h]
    simp
    omega

theorem parts_sub (l : Bl) : (parts l).Sublist (pieces l) := List.filter_sublist

theorem parts_sum (l : Bl) {ps : List Bl} (h : ps.Sublist (parts l)) : (ps.map List.length).sum + ps.length ≤ l.length + 1 := by
  have h1 := sub_sum (h.trans (parts_sub l))
  have h2 := pieces_sum l
  omega

theorem readP_parts (l : Bl) : (readP l).1.2.2 = [] ∨ ((readP l).1.2.2 = parts l ∧ l.length ≤ 4096) := by
  unfold readP
  repeat' split
  all_goals first | exact .inl rfl | exact .inr ⟨rfl, by omega⟩

theorem readP_sum (l : Bl) {ps : List Bl} (h : ps.Sublist (readP l).1.2.2) : (ps.map List.length).sum + ps.length ≤ 4097 := by
  rcases readP_parts l with e | ⟨e, hl⟩
  · rw [e] at h
    rw [List.sublist_nil.1 h]
    simp
  · rw [e] at h
    have := parts_sum l h
    omega

theorem txV_map (ps : List Bl) : (ps.map fun p => Value.string (txB p)) = ps.map txV := rfl

set_option maxRecDepth 100000 in
set_option maxHeartbeats 2000000 in
theorem clean_c (s : Bl) (w : World) :
    Calls Tryd.prog 9 #[.string (txB s)] w fun r w' => r = .returned (.tuple #[.string (txB (cleanP s).1), .int .i64 (cleanP s).2]) ∧ Keep w w' (fun _ => False) := by
  have hrc := read_c s
  have hsm : ∀ {ps : List Bl}, ps.Sublist (readP s).1.2.2 → (ps.map List.length).sum + ps.length ≤ 4097 := fun h => readP_sum s h
  have hcl := fun m (h : m = cleanP s) => h
  unfold cleanP at hcl
  unfold cleanP
  generalize readP s = R at *
  obtain ⟨⟨r1, r2, ps⟩, er⟩ := R
  simp only at hrc hsm hcl ⊢
  clear hcl
  have hrc0 := fun U : World => hrc U
  by_cases he : er = 0
  · subst he
    rw [if_neg (by simp)]
    obtain ⟨res, hres⟩ : ∃ res : Bl × Int, res = if ps.filter noDot = [] ∧ r1 = false then ([46], 0) else (writeP r1 r2 (ps.filter noDot), 0) := ⟨_, rfl⟩
    rw [← hres]
    have RES := Lib.hid hres
    clear hres
    have hpl : ps.length ≤ 4097 := by have := hsm (List.Sublist.refl ps); omega
    obtain ⟨n, hn⟩ : ∃ n, n = ps.length := ⟨_, rfl⟩
    rw [← hn] at hpl hrc0
    have HN := Lib.hid hn
    clear hn
    obtain ⟨ti, ti1, ti2, ti3, ti4⟩ := str_info
    have HI := Lib.hid (And.intro ti1 (And.intro ti2 (And.intro ti3 ti4)))
    clear ti1 ti2 ti3 ti4
    have hz1 : (Value.string ByteArray.empty).cells.size = 1 := rfl
    have HS := Lib.hid (show ∀ qs : List Bl, qs.Sublist ps → (qs.map List.length).sum + qs.length ≤ 4097 from fun _ h => hsm h)
    clear hsm hrc
    go_enter Tryd.func9, Tryd.ntmps9
    go_wp2_with (
      go_at_call 11
      refine (hrc0 _).mono ?_
      rintro e w1 ⟨v, rfl, hrow, hk⟩
      obtain ⟨sa, cap, rfl, hcap⟩ := rows_val2 hrow
      have D := Lib.hid (And.intro hrow hk)
      clear hrow hk)
    obtain ⟨W, hW⟩ : ∃ W, W = w1.alloc (.cells #[.bool r1, .bool r2, .slice sa n cap] 28) := ⟨_, rfl⟩
    have k1 := Keep.alloc w1 (.cells #[.bool r1, .bool r2, .slice sa n cap] 28) (fun _ => False)
    have a1 := heap_alloc_eq w1 (.cells #[.bool r1, .bool r2, .slice sa n cap] 28)
    rw [← hW] at k1 a1 ⊢
    have E := Lib.hid (And.intro (rows_keep D.out.1 k1 (fun _ _ q => q)) (And.intro (D.out.2.trans k1 (fun _ q => q.elim)) (And.intro a1 (And.intro (lt_of_blk a1) D.out.2.size))))
    clear hW k1 a1 D
    go_loopg [6, 20] n (fun g s6 s20 wr => ∃ k : Nat, s20 = .int .i64 k ∧ k + g = n ∧ Made W wr 9 s6 (((ps.take k).filter noDot).map txV))
    case atStart => exact ⟨0, rfl, by omega, Made.nil W 9⟩
    case round =>
      obtain ⟨k, rfl, hk, hM⟩ := hrel
      obtain ⟨q3, hq3⟩ : ∃ q3, (((ps.take k).filter noDot).map txV).length = q3 := ⟨_, rfl⟩
      have hqs : q3 ≤ 4097 := by
        have h1 := HS.out ((ps.take k).filter noDot) (List.filter_sublist.trans (List.take_sublist _ _))
        rw [← hq3, List.length_map]; omega
      have M := Lib.hid hM
      obtain ⟨a3, cap3, rfl⟩ := hM.valn hq3
      have HQ3 := Lib.hid hq3
      clear hM hq3
      by_cases hlk : k < n
      · have g3 : (k : Int) < (n : Int) := by omega
        obtain ⟨y, hy⟩ : ∃ y, ps[k]? = some y := ⟨_, List.getElem?_eq_getElem (by rw [← HN.out]; exact hlk)⟩
        obtain ⟨bo, rfl, -, -, hbo⟩ := rows_some E.out.1 (by omega)
        have hcy := (rows_cell E.out.1 (mapGet (f := txV) hy)).1
        have c2 : wr.cell? ⟨bo, k, none⟩ = some (.string (txB y)) := M.out.keep.cell hcy (fun q => q)
        have HY := Lib.hid (show ps.take (k + 1) = ps.take k ++ [y] by rw [List.take_add_one, hy]; rfl)
        clear hcy hy
        by_cases hdot : (txB y).toList = [46]
        · have HF := Lib.hid (show (ps.take (k + 1)).filter noDot = (ps.take k).filter noDot by
            rw [HY.out, List.filter_append]
            rw [txB_toList] at hdot
            simp [noDot, hdot])
          go_wp2
          go_roundg (n - (k + 1))
          case measure => omega
          case rel => exact ⟨k + 1, rfl, by omega, by rw [HF.out]; exact M.out⟩
        · have HF := Lib.hid (show (ps.take (k + 1)).filter noDot = (ps.take k).filter noDot ++ [y] by
            rw [HY.out, List.filter_append]
            rw [txB_toList] at hdot
            simp [noDot, hdot])
          have g5 : (!(txB y).toList == [46]) = true := by simp [hdot]
          go_wp2_with (
            at_builtin
            refine law_push rfl _ _ _ rfl Tryd.underlying26 HI.out.1 HI.out.2.1 HI.out.2.2.1 HI.out.2.2.2 hz1 M.out rfl (.string (txB y)) rfl rfl HQ3.out (by omega) ?_
            intro a8 cap8 w8 hM8 _ _
            have M8 := Lib.hid hM8
            clear hM8)
          go_roundg (n - (k + 1))
          case measure => omega
          case rel => exact ⟨k + 1, rfl, by omega, by rw [HF.out, List.map_append]; exact M8.out⟩
      · have g3 : ¬ (k : Int) < (n : Int) := by omega
        have hk2 : ps.take k = ps := List.take_of_length_le (by rw [← HN.out]; omega)
        rw [hk2] at M HQ3
        have hle := HS.out (ps.filter noDot) List.filter_sublist
        have b1 := M.out.keep.get E.out.2.2.1 (fun q => q)
        have c0 := cell_blk b1 0
        have c1 := cell_blk b1 1
        have c2 := cell_blk b1 2
        have f2 := free_blk b1 2
        simp only [List.getElem?_toArray, List.getElem?_cons_zero, List.getElem?_cons_succ] at c0 c1 c2
        have B := Lib.hid (And.intro b1 hle)
        clear b1 hle hk2
        have hfr : ∀ {A : World}, Keep wr A (fun b => b = w1.heap.size) → ∀ b, (Value.slice a3 q3 cap3).ownBlock = some b → ¬ b = w1.heap.size := fun k b q => by
          have h1 := M.out.new b q
          have h2 := E.out.2.2.2.1
          omega
        obtain ⟨wq, hwq⟩ : ∃ wq, wq = wr.setCell ⟨w1.heap.size, 2, none⟩ (.slice a3 q3 cap3) := ⟨_, rfl⟩
        have kq := Keep.setCell wr ⟨w1.heap.size, 2, none⟩ (.slice a3 q3 cap3)
        have sq := heap_setCell_eq (off := 2) (Value.slice a3 q3 cap3) B.out.1
        rw [← hwq] at kq sq
        have hrq := rows_keep M.out.row kq (hfr kq)
        have hkq : Keep w wq (fun _ => False) := (E.out.2.1.trans M.out.keep (fun _ q => q.elim)).trans kq (fun b q => .inr (by
          have q' : b = w1.heap.size := q
          rw [q']
          exact E.out.2.2.2.2))
        have hfl : (ps.filter noDot).length = q3 := by rw [← HQ3.out, List.length_map]
        have hwc := write_c (root := r1) (slash := r2) (ps := ps.filter noDot) (w := wq) (v := .slice a3 q3 cap3) (by rw [hfl]; rw [HQ3.out] at hrq; exact hrq) (by omega) (Nat.le_trans (join_le _) (by have := B.out.2; omega))
        rw [hwq] at hwc
        have HK := Lib.hid (show Keep w (wr.setCell ⟨w1.heap.size, 2, none⟩ (.slice a3 q3 cap3)) (fun _ => False) by rw [← hwq]; exact hkq)
        have hres := RES.out
        have hnil : (ps.filter noDot = []) = (q3 = 0) := by rw [← List.length_eq_zero_iff, hfl]
        simp only [hnil] at hres
        clear kq sq hrq hkq hfl hwq hfr hnil
        by_cases h0 : q3 = 0
        · subst h0
          cases r1
          · rw [if_pos ⟨rfl, rfl⟩] at hres
            have RS := Lib.hid hres
            clear hres
            go_wp2
            go_ret2
            exact ⟨by rw [RS.out]; rfl, HK.out⟩
          · rw [if_neg (by simp)] at hres
            have RS := Lib.hid hres
            clear hres
            go_wp2_with (
              go_at_call 21
              refine hwc.mono ?_
              rintro e w9 ⟨rfl, hk9⟩)
            go_ret2
            exact ⟨by rw [RS.out]; rfl, HK.out.trans hk9 (fun _ q => q.elim)⟩
        · have h0' : ¬ (q3 : Int) = 0 := by omega
          rw [if_neg (fun q => h0 q.1)] at hres
          have RS := Lib.hid hres
          clear hres
          go_wp2_with (
            go_at_call 21
            refine hwc.mono ?_
            rintro e w9 ⟨rfl, hk9⟩)
          go_ret2
          exact ⟨by rw [RS.out]; rfl, HK.out.trans hk9 (fun _ q => q.elim)⟩
  · rw [if_pos he]
    clear hsm hrc
    go_enter Tryd.func9, Tryd.ntmps9
    go_wp2_with (
      go_at_call 11
      refine (hrc0 _).mono ?_
      rintro e w1 ⟨v, rfl, hrow, hk⟩
      obtain ⟨sa, cap, rfl, hcap⟩ := rows_val2 hrow
      have D := Lib.hid (And.intro hrow hk)
      clear hrow hk)
    go_ret2
    exact ⟨rfl, D.out.2.trans (Keep.alloc _ _ (fun _ => False)) (fun _ q => q.elim)⟩

end Go.Proofs.YtlbekofkhjkniaaDoor
