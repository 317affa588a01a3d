/-
  TreeHolds: the walk.
-/
import Derived.Test.YtnjfcedkfobbcaaTreeCur
import Derived.Lib.SlBytesConst
namespace Go.Proofs.Ytnjfcedkfobbcaa
open Go Go.RowKit Go.Shelf
set_option linter.unusedSectionVars false
set_option linter.unusedSimpArgs false
set_option linter.unusedVariables false
set_option maxRecDepth 100000

abbrev kx : ByteArray := ⟨#[120]⟩
theorem right_x : RightIs kx true := rightIs (l := [120]) (by decide +kernel)

def someBytes : List Int := [115, 111, 109, 101, 32, 98, 121, 116, 101, 115, 32, 116, 104, 97, 116, 32, 116, 97, 107, 101, 32, 98, 108, 111, 99, 107, 115]
def textK (k : Int) : ByteArray := if k = 3 then ⟨#[116]⟩ else ByteArray.empty
def M0 : TreeV := TreeV.new 3 8
def MT (k : Int) : TreeV := (M0.make true 1 kx k (maskV 0) 0 0 (textK k)).1
def HT (k : Int) : Nat → TreeV
  | 0 => MT k
  | j + 1 => ((HT k j).hold 2).1
def WT (k : Int) (h : Nat) : TreeV := if k = 2 then ((HT k h).write 2 0 someBytes).1 else HT k h
def PT (k : Int) (h : Nat) : TreeV := ((WT k h).part 1 kx).1
def LT (k : Int) (h : Nat) : Nat → TreeV
  | 0 => PT k h
  | i + 1 => ((LT k h i).loose 2).1

theorem m_made : ∀ k ∈ [(1 : Int), 2, 3], (M0.make true 1 kx k (maskV 0) 0 0 (textK k)).2 = (2, 0) := by decide +kernel
theorem h_held : ∀ k ∈ [(1 : Int), 2, 3], ∀ j ∈ List.range 7, ((HT k j).hold 2).2 = 0 := by decide +kernel
theorem p_part : ∀ k ∈ [(1 : Int), 2, 3], ∀ j ∈ List.range 7, ((WT k j).part 1 kx).2 = 0 := by decide +kernel
theorem l_loose : ∀ k ∈ [(1 : Int), 2, 3], ∀ h ∈ List.range 7, ∀ i ∈ List.range 8, ((LT k h i).loose 2).2 = if i < h then 0 else 1 := by decide +kernel
theorem l_live : ∀ k ∈ [(1 : Int), 2, 3], ∀ h ∈ List.range 7, ∀ i ∈ List.range 9, ((LT k h i).stat 2).2 = decide (i < h) := by decide +kernel
theorem l_links : ∀ k ∈ [(1 : Int), 2, 3], ∀ h ∈ List.range 7, ∀ i ∈ List.range 9, ((LT k h i).stat 2).1.links = 0 := by decide +kernel
theorem l_left : ∀ k ∈ [(1 : Int), 2, 3], ∀ h ∈ List.range 7, ∀ i ∈ List.range 9, (LT k h i).left = (if i < h then 1 else 2) ∧ (LT k h i).live.length = (if i < h then 2 else 1) := by decide +kernel
theorem stat_dead {T : TreeV} {n : Int} (h : (T.stat n).2 = false) : T.stat n = (⟨0, 0, 0, 0, 0, 0, 0⟩, false) := by
  unfold TreeV.stat at h ⊢
  cases hx : aget T.all n with
  | none => rfl
  | some x => rw [hx] at h; cases h
theorem mem3 {k : Int} (h : k = 1 ∨ k = 2 ∨ k = 3) : k ∈ [(1 : Int), 2, 3] := by simpa using h

theorem conv_same (w : World) : (convert 29 29 (.slice (some ⟨w.heap.size, 0, none⟩) 27 27)).run Try.prog (w.alloc (.cells #[.int .u8 115, .int .u8 111, .int .u8 109, .int .u8 101, .int .u8 32, .int .u8 98, .int .u8 121, .int .u8 116, .int .u8 101, .int .u8 115, .int .u8 32, .int .u8 116, .int .u8 104, .int .u8 97, .int .u8 116, .int .u8 32, .int .u8 116, .int .u8 97, .int .u8 107, .int .u8 101, .int .u8 32, .int .u8 98, .int .u8 108, .int .u8 111, .int .u8 99, .int .u8 107, .int .u8 115] 5)) = .ok (.slice (some ⟨w.heap.size, 0, none⟩) 27 27) (w.alloc (.cells #[.int .u8 115, .int .u8 111, .int .u8 109, .int .u8 101, .int .u8 32, .int .u8 98, .int .u8 121, .int .u8 116, .int .u8 101, .int .u8 115, .int .u8 32, .int .u8 116, .int .u8 104, .int .u8 97, .int .u8 116, .int .u8 32, .int .u8 116, .int .u8 97, .int .u8 107, .int .u8 101, .int .u8 32, .int .u8 98, .int .u8 108, .int .u8 111, .int .u8 99, .int .u8 107, .int .u8 115] 5 (27, 28))) := Lib.run_convert_bytes_const (P := Try.prog) w 29 5 _ 27 27 Try.underlying29 Try.underlying5

theorem some_in (w : World) (D : Nat → Prop) (hD : ¬ D w.heap.size) : BytesIn (w.alloc (.cells #[.int .u8 115, .int .u8 111, .int .u8 109, .int .u8 101, .int .u8 32, .int .u8 98, .int .u8 121, .int .u8 116, .int .u8 101, .int .u8 115, .int .u8 32, .int .u8 116, .int .u8 104, .int .u8 97, .int .u8 116, .int .u8 32, .int .u8 116, .int .u8 97, .int .u8 107, .int .u8 101, .int .u8 32, .int .u8 98, .int .u8 108, .int .u8 111, .int .u8 99, .int .u8 107, .int .u8 115] 5 (27, 28))) (.slice (some ⟨w.heap.size, 0, none⟩) 27 27) someBytes D := by
  refine ⟨by decide, _, 27, rfl, .inr ⟨w.heap.size, 0, rfl, hD, fun i hi => ?_⟩⟩
  rw [cell_blk (heap_alloc_eq w _), Nat.zero_add]
  have hi' : i < 27 := hi
  have key : ∀ i, i < 27 → (#[.int .u8 115, .int .u8 111, .int .u8 109, .int .u8 101, .int .u8 32, .int .u8 98, .int .u8 121, .int .u8 116, .int .u8 101, .int .u8 115, .int .u8 32, .int .u8 116, .int .u8 104, .int .u8 97, .int .u8 116, .int .u8 32, .int .u8 116, .int .u8 97, .int .u8 107, .int .u8 101, .int .u8 32, .int .u8 98, .int .u8 108, .int .u8 111, .int .u8 99, .int .u8 107, .int .u8 115] : Array Value)[i]? = some (Value.int .u8 (someBytes.getD i 0)) := by
    intro i hi
    rcases (by omega : i = 0 ∨ i = 1 ∨ i = 2 ∨ i = 3 ∨ i = 4 ∨ i = 5 ∨ i = 6 ∨ i = 7 ∨ i = 8 ∨ i = 9 ∨ i = 10 ∨ i = 11 ∨ i = 12 ∨ i = 13 ∨ i = 14 ∨ i = 15 ∨ i = 16 ∨ i = 17 ∨ i = 18 ∨ i = 19 ∨ i = 20 ∨ i = 21 ∨ i = 22 ∨ i = 23 ∨ i = 24 ∨ i = 25 ∨ i = 26) with rfl | rfl | rfl | rfl | rfl | rfl | rfl | rfl | rfl | rfl | rfl | rfl | rfl | rfl | rfl | rfl | rfl | rfl | rfl | rfl | rfl | rfl | rfl | rfl | rfl | rfl | rfl
    all_goals rfl
  exact key i hi'

set_option maxHeartbeats 1600000 in
theorem holds_walk1 (w : World) (n1 n2 n3 : Int) (hh ll : Nat) (HH : Hid (hh ≤ 6 ∧ ll ≤ 8)) (hw1 : ∀ U, Calls Try.prog 12 #[.int .i64 n1, .int .i64 0, .int .i64 6] U fun r w' => r = .returned (.int .i64 hh) ∧ U = w') (hw2 : ∀ U, Calls Try.prog 12 #[.int .i64 n2, .int .i64 0, .int .i64 8] U fun r w' => r = .returned (.int .i64 ll) ∧ U = w')
    (hw3 : ∀ U, Calls Try.prog 12 #[.int .i64 n3, .int .i64 0, .int .i64 2] U fun r w' => r = .returned (.int .i64 0) ∧ U = w') :
    Calls Try.prog 5 #[.int .i64 n1, .int .i64 n2, .int .i64 n3] w fun r w' => r = .returned (.bool true) ∧ Below w.heap.size w w' := by
  have h0 := newt_c (Keep.refl w _) 3 8 ⟨by decide, by decide⟩ ⟨by decide, by decide⟩
  go_enter Try.func5, Try.ntmps5
  go_wp2_with (first
    | (go_at_call 9
       refine h0.mono ?_
       rintro e w1 ⟨tb, s0, rfl, c0, -⟩
       have hmk := make_p c0 (by decide) right_x 1 1 0 0 0 ByteArray.empty (n := 2) (e := 0) (U := MT 1) (m_made 1 (mem3 (by decide))) rfl
       clear h0 c0)
    | (go_at_call 12
       refine (hw1 _).mono ?_
       rintro e w1 ⟨rfl, rfl⟩
       clear hw1)
    | (go_at_call 12
       refine (hw2 _).mono ?_
       rintro e w1 ⟨rfl, rfl⟩
       clear hw2)
    | (go_at_call 12
       refine (hw3 _).mono ?_
       rintro e w1 ⟨rfl, rfl⟩
       clear hw3)
    | (go_at_call 11
       refine (hmk _ (Keep.refl _ _)).mono ?_
       rintro e w2 ⟨rfl, s1, c1, -⟩
       have C1 := Lib.hid (show TCur w w2 tb s1 (HT 1 0) 8 _ from c1)
       clear hmk c1))
  go_loopg [12] hh (fun g s12 wr => ∃ (j : Nat) (s : TShape), s12 = .int .i64 j ∧ j + g = hh ∧ TCur w wr tb s (HT 1 j) 8 (10 + 3 * j))
  case atStart => exact ⟨0, s1, rfl, by omega, C1.out.more (by omega)⟩
  case round =>
    obtain ⟨j, s, rfl, hjg, hc⟩ := hrel
    have C := Lib.hid hc
    clear hc
    by_cases hlt : (j : Int) < (hh : Int)
    · have hho := hold_t C.out (by have := HH.out; omega) 2
      rw [h_held 1 (mem3 (by decide)) j (List.mem_range.2 (by have := HH.out; omega))] at hho
      have hj6 : j ≤ 6 := by have := HH.out; omega
      go_wp2_with (
        go_at_call 19
        refine (hho _ (Keep.refl _ _)).mono ?_
        rintro e w3 ⟨rfl, s3, c3, -⟩
        have C3 := Lib.hid (show TCur w w3 tb s3 (HT 1 (j + 1)) 8 _ from c3)
        clear hho c3)
      go_roundg (hh - (j + 1))
      case measure => omega
      case rel => exact ⟨j + 1, s3, by go_num, by omega, C3.out.more (by omega)⟩
    · have hjh : j = hh := by omega
      subst hjh
      have hj6 : j ≤ 6 := HH.out.1
      have CW := Lib.hid (show TCur w wr tb s (WT 1 j) 8 (10 + 3 * j) from C.out)
      -- the walk behind the holds
      have hpart := part_t CW.out (by omega) 1 kx
      rw [p_part 1 (mem3 (by decide)) j (List.mem_range.2 (by have := HH.out; omega))] at hpart
      go_upto_region 22 with (
        go_at_call 17
        refine (hpart _ (Keep.refl _ _)).mono ?_
        rintro e w2 ⟨rfl, s2, c2, -⟩
        have CP := Lib.hid (show TCur w w2 tb s2 (LT 1 j 0) 8 _ from c2)
        clear hpart c2)
      go_wp2
      go_loopg [13, 14, 15] ll (fun g s13 s14 s15 wr => ∃ (i : Nat) (s : TShape), s13 = .int .i64 ((j - i : Nat) : Int) ∧ s14 = .int .i64 i ∧ i + g = ll ∧ TCur w wr tb s (LT 1 j i) 8 (100 + 3 * i))
      case atStart => exact ⟨0, s2, rfl, rfl, by omega, CP.out.more (by have := HH.out; omega)⟩
      case round =>
        obtain ⟨i, s, rfl, rfl, hig, hc⟩ := hrel
        have C := Lib.hid hc
        clear hc
        by_cases hlt : (i : Int) < (ll : Int)
        · have hl8 : ll ≤ 8 := HH.out.2
          have hlo := loose_t C.out (by have := HH.out; omega) 2
          have hres := l_loose 1 (mem3 (by decide)) j (List.mem_range.2 (by have := HH.out; omega)) i (List.mem_range.2 (by have := HH.out; omega))
          rw [hres] at hlo
          by_cases hih : i < j
          · rw [if_pos hih] at hlo
            have hpos : (0 : Int) < ((j - i : Nat) : Int) := by omega
            have hdec : ((j - i : Nat) : Int) - 1 = ((j - (i + 1) : Nat) : Int) := by omega
            have hbnd : ((j - i : Nat) : Int) ≤ 6 := by have := HH.out; omega
            generalize ((j - i : Nat) : Int) = lf at *
            have HE := Lib.hid hdec
            clear hres hih hdec
            go_wp2_with (
              go_at_call 21
              refine (hlo _ (Keep.refl _ _)).mono ?_
              rintro e w3 ⟨rfl, s3, c3, -⟩
              have C3 := Lib.hid (show TCur w w3 tb s3 (LT 1 j (i + 1)) 8 _ from c3)
              clear hlo c3)
            go_roundg (ll - (i + 1))
            case measure => omega
            case rel => exact ⟨i + 1, s3, by rw [← HE.out], by go_num, by omega, C3.out.more (by omega)⟩
          · rw [if_neg hih] at hlo
            have hz : ((j - i : Nat) : Int) = 0 := by omega
            have hz2 : ((j - (i + 1) : Nat) : Int) = 0 := by omega
            rw [hz]
            have HE := Lib.hid hz2
            clear hres hih hz hz2
            go_wp2_with (
              go_at_call 21
              refine (hlo _ (Keep.refl _ _)).mono ?_
              rintro e w3 ⟨rfl, s3, c3, -⟩
              have C3 := Lib.hid (show TCur w w3 tb s3 (LT 1 j (i + 1)) 8 _ from c3)
              clear hlo c3)
            go_roundg (ll - (i + 1))
            case measure => omega
            case rel => exact ⟨i + 1, s3, by rw [HE.out], by go_num, by omega, C3.out.more (by omega)⟩
        · have hst := tstat_c C.out.tab (C.out.small.mono (by have := HH.out; omega)) 2
          have hil := List.mem_range.2 (show j < 7 by have := HH.out; omega)
          have hii := List.mem_range.2 (show i < 9 by have := HH.out; omega)
          have e1 := l_live 1 (mem3 (by decide)) j hil i hii
          have e2 := l_links 1 (mem3 (by decide)) j hil i hii
          obtain ⟨e3, e4⟩ := l_left 1 (mem3 (by decide)) j hil i hii
          by_cases hih : i < j
          · obtain ⟨⟨x0, x1, x2, x3, x4, x5, x6⟩, lv, hx⟩ : ∃ x b, (LT 1 j i).stat 2 = (x, b) := ⟨_, _, rfl⟩
            rw [hx] at e1 e2 hst
            simp only at e1 e2
            rw [show decide (i < j) = true from decide_eq_true hih] at e1
            subst e1 e2
            rw [if_pos hih] at e3 e4
            have hpos : (0 : Int) < ((j - i : Nat) : Int) := by omega
            have gz : (((j - i : Nat) : Int) == 0) = false := by simp; omega
            generalize ((j - i : Nat) : Int) = lf at *
            simp only [statC] at hst
            have E := Lib.hid (And.intro e3 e4)
            clear e3 e4 hx hih hil hii
            go_wp2_with (first
              | (go_at_call 14
                 refine hst.mono ?_
                 rintro e w4 ⟨rfl, k4⟩
                 have C4 := Lib.hid ((C.out.step k4).step (Keep.alloc w4 (.cells #[.int .i64 x0, .int .i64 x1, .int .i64 x2, .int .i64 x3, .int .i64 x4, .int .i64 0, .int .i64 x6] 28) _))
                 have b4 := heap_alloc_eq w4 (.cells #[.int .i64 x0, .int .i64 x1, .int .i64 x2, .int .i64 x3, .int .i64 x4, .int .i64 0, .int .i64 x6] 28)
                 have d0 := cell_blk b4 0
                 have d1 := cell_blk b4 1
                 have d2 := cell_blk b4 2
                 have d3 := cell_blk b4 3
                 have d4 := cell_blk b4 4
                 have d5 := cell_blk b4 5
                 have d6 := cell_blk b4 6
                 simp only [List.getElem?_toArray, List.getElem?_cons_zero, List.getElem?_cons_succ] at d0 d1 d2 d3 d4 d5 d6
                 have hlf := tleft_c C4.out.tab C4.out.good.ok.room
                 rw [E.out.1] at hlf
                 clear hst k4 b4)
              | (go_at_call 22
                 refine hlf.mono ?_
                 rintro e w5 ⟨rfl, k5⟩
                 have C5 := Lib.hid (C4.out.step k5)
                 have hlv := tlive_c C5.out.tab C5.out.good.ok
                 rw [E.out.2] at hlv
                 clear hlf k5)
              | (go_at_call 23
                 refine hlv.mono ?_
                 rintro e w6 ⟨v6, rfl, r1, r2, r3⟩
                 obtain ⟨va, vc, rfl, -⟩ := rows_val2 r1
                 have C6 := Lib.hid (C5.out.step r2)
                 have hlv2 := tlive_c C6.out.tab C6.out.good.ok
                 rw [E.out.2] at hlv2
                 clear hlv r1 r2 r3)
              | (go_at_call 23
                 refine hlv2.mono ?_
                 rintro e w7 ⟨v7, rfl, r1, r2, r3⟩
                 obtain ⟨vb, vd, rfl, -⟩ := rows_val2 r1
                 have C7 := Lib.hid (C6.out.step r2)
                 have hK := tknown_c w7
                 clear hlv2 r1 r2 r3)
              | (go_at_call 16
                 refine hK.mono ?_
                 rintro e wk ⟨rfl, kk⟩
                 have CK := Lib.hid (C7.out.step kk)
                 clear hK kk))
            go_ret
            exact ⟨rfl, CK.out.below⟩
          · have hd := stat_dead (T := LT 1 j i) (n := 2) (by rw [e1]; exact decide_eq_false hih)
            rw [hd] at hst
            rw [if_neg hih] at e3 e4
            have hz : ((j - i : Nat) : Int) = 0 := by omega
            rw [hz]
            simp only [statC] at hst
            have E := Lib.hid (And.intro e3 e4)
            clear e1 e2 e3 e4 hd hih hil hii hz
            go_wp2_with (first
              | (go_at_call 14
                 refine hst.mono ?_
                 rintro e w4 ⟨rfl, k4⟩
                 have C4 := Lib.hid ((C.out.step k4).step (Keep.alloc w4 (.cells #[.int .i64 0, .int .i64 0, .int .i64 0, .int .i64 0, .int .i64 0, .int .i64 0, .int .i64 0] 28) _))
                 have b4 := heap_alloc_eq w4 (.cells #[.int .i64 0, .int .i64 0, .int .i64 0, .int .i64 0, .int .i64 0, .int .i64 0, .int .i64 0] 28)
                 have d0 := cell_blk b4 0
                 have d1 := cell_blk b4 1
                 have d2 := cell_blk b4 2
                 have d3 := cell_blk b4 3
                 have d4 := cell_blk b4 4
                 have d5 := cell_blk b4 5
                 have d6 := cell_blk b4 6
                 simp only [List.getElem?_toArray, List.getElem?_cons_zero, List.getElem?_cons_succ] at d0 d1 d2 d3 d4 d5 d6
                 have hlf := tleft_c C4.out.tab C4.out.good.ok.room
                 rw [E.out.1] at hlf
                 clear hst k4 b4)
              | (go_at_call 22
                 refine hlf.mono ?_
                 rintro e w5 ⟨rfl, k5⟩
                 have C5 := Lib.hid (C4.out.step k5)
                 have hlv := tlive_c C5.out.tab C5.out.good.ok
                 rw [E.out.2] at hlv
                 clear hlf k5)
              | (go_at_call 23
                 refine hlv.mono ?_
                 rintro e w6 ⟨v6, rfl, r1, r2, r3⟩
                 obtain ⟨va, vc, rfl, -⟩ := rows_val2 r1
                 have C6 := Lib.hid (C5.out.step r2)
                 have hlv2 := tlive_c C6.out.tab C6.out.good.ok
                 rw [E.out.2] at hlv2
                 clear hlv r1 r2 r3)
              | (go_at_call 23
                 refine hlv2.mono ?_
                 rintro e w7 ⟨v7, rfl, r1, r2, r3⟩
                 obtain ⟨vb, vd, rfl, -⟩ := rows_val2 r1
                 have C7 := Lib.hid (C6.out.step r2)
                 have hK := tknown_c w7
                 clear hlv2 r1 r2 r3)
              | (go_at_call 16
                 refine hK.mono ?_
                 rintro e wk ⟨rfl, kk⟩
                 have CK := Lib.hid (C7.out.step kk)
                 clear hK kk))
            go_ret
            exact ⟨rfl, CK.out.below⟩


set_option maxHeartbeats 1600000 in
theorem holds_walk2 (w : World) (n1 n2 n3 : Int) (hh ll : Nat) (HH : Hid (hh ≤ 6 ∧ ll ≤ 8)) (hw1 : ∀ U, Calls Try.prog 12 #[.int .i64 n1, .int .i64 0, .int .i64 6] U fun r w' => r = .returned (.int .i64 hh) ∧ U = w') (hw2 : ∀ U, Calls Try.prog 12 #[.int .i64 n2, .int .i64 0, .int .i64 8] U fun r w' => r = .returned (.int .i64 ll) ∧ U = w')
    (hw3 : ∀ U, Calls Try.prog 12 #[.int .i64 n3, .int .i64 0, .int .i64 2] U fun r w' => r = .returned (.int .i64 1) ∧ U = w') :
    Calls Try.prog 5 #[.int .i64 n1, .int .i64 n2, .int .i64 n3] w fun r w' => r = .returned (.bool true) ∧ Below w.heap.size w w' := by
  have h0 := newt_c (Keep.refl w _) 3 8 ⟨by decide, by decide⟩ ⟨by decide, by decide⟩
  go_enter Try.func5, Try.ntmps5
  go_wp2_with (first
    | (go_at_call 9
       refine h0.mono ?_
       rintro e w1 ⟨tb, s0, rfl, c0, -⟩
       have hmk := make_p c0 (by decide) right_x 1 2 0 0 0 ByteArray.empty (n := 2) (e := 0) (U := MT 2) (m_made 2 (mem3 (by decide))) rfl
       clear h0 c0)
    | (go_at_call 12
       refine (hw1 _).mono ?_
       rintro e w1 ⟨rfl, rfl⟩
       clear hw1)
    | (go_at_call 12
       refine (hw2 _).mono ?_
       rintro e w1 ⟨rfl, rfl⟩
       clear hw2)
    | (go_at_call 12
       refine (hw3 _).mono ?_
       rintro e w1 ⟨rfl, rfl⟩
       clear hw3)
    | (go_at_call 11
       refine (hmk _ (Keep.refl _ _)).mono ?_
       rintro e w2 ⟨rfl, s1, c1, -⟩
       have C1 := Lib.hid (show TCur w w2 tb s1 (HT 2 0) 8 _ from c1)
       clear hmk c1))
  go_loopg [12] hh (fun g s12 wr => ∃ (j : Nat) (s : TShape), s12 = .int .i64 j ∧ j + g = hh ∧ TCur w wr tb s (HT 2 j) 8 (10 + 3 * j))
  case atStart => exact ⟨0, s1, rfl, by omega, C1.out.more (by omega)⟩
  case round =>
    obtain ⟨j, s, rfl, hjg, hc⟩ := hrel
    have C := Lib.hid hc
    clear hc
    by_cases hlt : (j : Int) < (hh : Int)
    · have hho := hold_t C.out (by have := HH.out; omega) 2
      rw [h_held 2 (mem3 (by decide)) j (List.mem_range.2 (by have := HH.out; omega))] at hho
      have hj6 : j ≤ 6 := by have := HH.out; omega
      go_wp2_with (
        go_at_call 19
        refine (hho _ (Keep.refl _ _)).mono ?_
        rintro e w3 ⟨rfl, s3, c3, -⟩
        have C3 := Lib.hid (show TCur w w3 tb s3 (HT 2 (j + 1)) 8 _ from c3)
        clear hho c3)
      go_roundg (hh - (j + 1))
      case measure => omega
      case rel => exact ⟨j + 1, s3, by go_num, by omega, C3.out.more (by omega)⟩
    · have hjh : j = hh := by omega
      subst hjh
      have hj6 : j ≤ 6 := HH.out.1
      have hwr := twrite_c (C.out.step (Keep.alloc wr (.cells #[.int .u8 115, .int .u8 111, .int .u8 109, .int .u8 101, .int .u8 32, .int .u8 98, .int .u8 121, .int .u8 116, .int .u8 101, .int .u8 115, .int .u8 32, .int .u8 116, .int .u8 104, .int .u8 97, .int .u8 116, .int .u8 32, .int .u8 116, .int .u8 97, .int .u8 107, .int .u8 101, .int .u8 32, .int .u8 98, .int .u8 108, .int .u8 111, .int .u8 99, .int .u8 107, .int .u8 115] 5 (27, 28)) (fun _ => False))).tab C.out.good 2 0 (some_in wr s.has (fun q => by
        cases hq : s.tag wr.heap.size with
        | none => exact q hq
        | some g => have := C.out.tab.lt _ g hq; omega)) (by decide)
      have hcv := conv_same wr
      go_upto_region 20 with (
        go_at_call 20
        refine hwr.mono ?_
        rintro e w9 ⟨rfl, s9, h9, t9⟩
        have CW := Lib.hid (show TCur w w9 tb s9 (WT 2 j) 8 (10 + 3 * j + 3) from (C.out.step (Keep.alloc wr (.cells #[.int .u8 115, .int .u8 111, .int .u8 109, .int .u8 101, .int .u8 32, .int .u8 98, .int .u8 121, .int .u8 116, .int .u8 101, .int .u8 115, .int .u8 32, .int .u8 116, .int .u8 104, .int .u8 97, .int .u8 116, .int .u8 32, .int .u8 116, .int .u8 97, .int .u8 107, .int .u8 101, .int .u8 32, .int .u8 98, .int .u8 108, .int .u8 111, .int .u8 99, .int .u8 107, .int .u8 115] 5 (27, 28)) (fun _ => False))).turn h9 t9 (C.out.good.write _ _ (by decide)) (C.out.small.write ..))
        clear hwr h9 t9)
      -- the walk behind the holds
      have hpart := part_t CW.out (by omega) 1 kx
      rw [p_part 2 (mem3 (by decide)) j (List.mem_range.2 (by have := HH.out; omega))] at hpart
      go_upto_region 22 with (
        go_at_call 17
        refine (hpart _ (Keep.refl _ _)).mono ?_
        rintro e w2 ⟨rfl, s2, c2, -⟩
        have CP := Lib.hid (show TCur w w2 tb s2 (LT 2 j 0) 8 _ from c2)
        clear hpart c2)
      go_wp2
      go_loopg [13, 14, 15] ll (fun g s13 s14 s15 wr => ∃ (i : Nat) (s : TShape), s13 = .int .i64 ((j - i : Nat) : Int) ∧ s14 = .int .i64 i ∧ i + g = ll ∧ TCur w wr tb s (LT 2 j i) 8 (100 + 3 * i))
      case atStart => exact ⟨0, s2, rfl, rfl, by omega, CP.out.more (by have := HH.out; omega)⟩
      case round =>
        obtain ⟨i, s, rfl, rfl, hig, hc⟩ := hrel
        have C := Lib.hid hc
        clear hc
        by_cases hlt : (i : Int) < (ll : Int)
        · have hl8 : ll ≤ 8 := HH.out.2
          have hlo := loose_t C.out (by have := HH.out; omega) 2
          have hres := l_loose 2 (mem3 (by decide)) j (List.mem_range.2 (by have := HH.out; omega)) i (List.mem_range.2 (by have := HH.out; omega))
          rw [hres] at hlo
          by_cases hih : i < j
          · rw [if_pos hih] at hlo
            have hpos : (0 : Int) < ((j - i : Nat) : Int) := by omega
            have hdec : ((j - i : Nat) : Int) - 1 = ((j - (i + 1) : Nat) : Int) := by omega
            have hbnd : ((j - i : Nat) : Int) ≤ 6 := by have := HH.out; omega
            generalize ((j - i : Nat) : Int) = lf at *
            have HE := Lib.hid hdec
            clear hres hih hdec
            go_wp2_with (
              go_at_call 21
              refine (hlo _ (Keep.refl _ _)).mono ?_
              rintro e w3 ⟨rfl, s3, c3, -⟩
              have C3 := Lib.hid (show TCur w w3 tb s3 (LT 2 j (i + 1)) 8 _ from c3)
              clear hlo c3)
            go_roundg (ll - (i + 1))
            case measure => omega
            case rel => exact ⟨i + 1, s3, by rw [← HE.out], by go_num, by omega, C3.out.more (by omega)⟩
          · rw [if_neg hih] at hlo
            have hz : ((j - i : Nat) : Int) = 0 := by omega
            have hz2 : ((j - (i + 1) : Nat) : Int) = 0 := by omega
            rw [hz]
            have HE := Lib.hid hz2
            clear hres hih hz hz2
            go_wp2_with (
              go_at_call 21
              refine (hlo _ (Keep.refl _ _)).mono ?_
              rintro e w3 ⟨rfl, s3, c3, -⟩
              have C3 := Lib.hid (show TCur w w3 tb s3 (LT 2 j (i + 1)) 8 _ from c3)
              clear hlo c3)
            go_roundg (ll - (i + 1))
            case measure => omega
            case rel => exact ⟨i + 1, s3, by rw [HE.out], by go_num, by omega, C3.out.more (by omega)⟩
        · have hst := tstat_c C.out.tab (C.out.small.mono (by have := HH.out; omega)) 2
          have hil := List.mem_range.2 (show j < 7 by have := HH.out; omega)
          have hii := List.mem_range.2 (show i < 9 by have := HH.out; omega)
          have e1 := l_live 2 (mem3 (by decide)) j hil i hii
          have e2 := l_links 2 (mem3 (by decide)) j hil i hii
          obtain ⟨e3, e4⟩ := l_left 2 (mem3 (by decide)) j hil i hii
          by_cases hih : i < j
          · obtain ⟨⟨x0, x1, x2, x3, x4, x5, x6⟩, lv, hx⟩ : ∃ x b, (LT 2 j i).stat 2 = (x, b) := ⟨_, _, rfl⟩
            rw [hx] at e1 e2 hst
            simp only at e1 e2
            rw [show decide (i < j) = true from decide_eq_true hih] at e1
            subst e1 e2
            rw [if_pos hih] at e3 e4
            have hpos : (0 : Int) < ((j - i : Nat) : Int) := by omega
            have gz : (((j - i : Nat) : Int) == 0) = false := by simp; omega
            generalize ((j - i : Nat) : Int) = lf at *
            simp only [statC] at hst
            have E := Lib.hid (And.intro e3 e4)
            clear e3 e4 hx hih hil hii
            go_wp2_with (first
              | (go_at_call 14
                 refine hst.mono ?_
                 rintro e w4 ⟨rfl, k4⟩
                 have C4 := Lib.hid ((C.out.step k4).step (Keep.alloc w4 (.cells #[.int .i64 x0, .int .i64 x1, .int .i64 x2, .int .i64 x3, .int .i64 x4, .int .i64 0, .int .i64 x6] 28) _))
                 have b4 := heap_alloc_eq w4 (.cells #[.int .i64 x0, .int .i64 x1, .int .i64 x2, .int .i64 x3, .int .i64 x4, .int .i64 0, .int .i64 x6] 28)
                 have d0 := cell_blk b4 0
                 have d1 := cell_blk b4 1
                 have d2 := cell_blk b4 2
                 have d3 := cell_blk b4 3
                 have d4 := cell_blk b4 4
                 have d5 := cell_blk b4 5
                 have d6 := cell_blk b4 6
                 simp only [List.getElem?_toArray, List.getElem?_cons_zero, List.getElem?_cons_succ] at d0 d1 d2 d3 d4 d5 d6
                 have hlf := tleft_c C4.out.tab C4.out.good.ok.room
                 rw [E.out.1] at hlf
                 clear hst k4 b4)
              | (go_at_call 22
                 refine hlf.mono ?_
                 rintro e w5 ⟨rfl, k5⟩
                 have C5 := Lib.hid (C4.out.step k5)
                 have hlv := tlive_c C5.out.tab C5.out.good.ok
                 rw [E.out.2] at hlv
                 clear hlf k5)
              | (go_at_call 23
                 refine hlv.mono ?_
                 rintro e w6 ⟨v6, rfl, r1, r2, r3⟩
                 obtain ⟨va, vc, rfl, -⟩ := rows_val2 r1
                 have C6 := Lib.hid (C5.out.step r2)
                 have hlv2 := tlive_c C6.out.tab C6.out.good.ok
                 rw [E.out.2] at hlv2
                 clear hlv r1 r2 r3)
              | (go_at_call 23
                 refine hlv2.mono ?_
                 rintro e w7 ⟨v7, rfl, r1, r2, r3⟩
                 obtain ⟨vb, vd, rfl, -⟩ := rows_val2 r1
                 have C7 := Lib.hid (C6.out.step r2)
                 have hK := tknown_c w7
                 clear hlv2 r1 r2 r3)
              | (go_at_call 16
                 refine hK.mono ?_
                 rintro e wk ⟨rfl, kk⟩
                 have CK := Lib.hid (C7.out.step kk)
                 clear hK kk))
            go_ret
            exact ⟨rfl, CK.out.below⟩
          · have hd := stat_dead (T := LT 2 j i) (n := 2) (by rw [e1]; exact decide_eq_false hih)
            rw [hd] at hst
            rw [if_neg hih] at e3 e4
            have hz : ((j - i : Nat) : Int) = 0 := by omega
            rw [hz]
            simp only [statC] at hst
            have E := Lib.hid (And.intro e3 e4)
            clear e1 e2 e3 e4 hd hih hil hii hz
            go_wp2_with (first
              | (go_at_call 14
                 refine hst.mono ?_
                 rintro e w4 ⟨rfl, k4⟩
                 have C4 := Lib.hid ((C.out.step k4).step (Keep.alloc w4 (.cells #[.int .i64 0, .int .i64 0, .int .i64 0, .int .i64 0, .int .i64 0, .int .i64 0, .int .i64 0] 28) _))
                 have b4 := heap_alloc_eq w4 (.cells #[.int .i64 0, .int .i64 0, .int .i64 0, .int .i64 0, .int .i64 0, .int .i64 0, .int .i64 0] 28)
                 have d0 := cell_blk b4 0
                 have d1 := cell_blk b4 1
                 have d2 := cell_blk b4 2
                 have d3 := cell_blk b4 3
                 have d4 := cell_blk b4 4
                 have d5 := cell_blk b4 5
                 have d6 := cell_blk b4 6
                 simp only [List.getElem?_toArray, List.getElem?_cons_zero, List.getElem?_cons_succ] at d0 d1 d2 d3 d4 d5 d6
                 have hlf := tleft_c C4.out.tab C4.out.good.ok.room
                 rw [E.out.1] at hlf
                 clear hst k4 b4)
              | (go_at_call 22
                 refine hlf.mono ?_
                 rintro e w5 ⟨rfl, k5⟩
                 have C5 := Lib.hid (C4.out.step k5)
                 have hlv := tlive_c C5.out.tab C5.out.good.ok
                 rw [E.out.2] at hlv
                 clear hlf k5)
              | (go_at_call 23
                 refine hlv.mono ?_
                 rintro e w6 ⟨v6, rfl, r1, r2, r3⟩
                 obtain ⟨va, vc, rfl, -⟩ := rows_val2 r1
                 have C6 := Lib.hid (C5.out.step r2)
                 have hlv2 := tlive_c C6.out.tab C6.out.good.ok
                 rw [E.out.2] at hlv2
                 clear hlv r1 r2 r3)
              | (go_at_call 23
                 refine hlv2.mono ?_
                 rintro e w7 ⟨v7, rfl, r1, r2, r3⟩
                 obtain ⟨vb, vd, rfl, -⟩ := rows_val2 r1
                 have C7 := Lib.hid (C6.out.step r2)
                 have hK := tknown_c w7
                 clear hlv2 r1 r2 r3)
              | (go_at_call 16
                 refine hK.mono ?_
                 rintro e wk ⟨rfl, kk⟩
                 have CK := Lib.hid (C7.out.step kk)
                 clear hK kk))
            go_ret
            exact ⟨rfl, CK.out.below⟩


set_option maxHeartbeats 1600000 in
theorem holds_walk3 (w : World) (n1 n2 n3 : Int) (hh ll : Nat) (HH : Hid (hh ≤ 6 ∧ ll ≤ 8)) (hw1 : ∀ U, Calls Try.prog 12 #[.int .i64 n1, .int .i64 0, .int .i64 6] U fun r w' => r = .returned (.int .i64 hh) ∧ U = w') (hw2 : ∀ U, Calls Try.prog 12 #[.int .i64 n2, .int .i64 0, .int .i64 8] U fun r w' => r = .returned (.int .i64 ll) ∧ U = w')
    (hw3 : ∀ U, Calls Try.prog 12 #[.int .i64 n3, .int .i64 0, .int .i64 2] U fun r w' => r = .returned (.int .i64 2) ∧ U = w') :
    Calls Try.prog 5 #[.int .i64 n1, .int .i64 n2, .int .i64 n3] w fun r w' => r = .returned (.bool true) ∧ Below w.heap.size w w' := by
  have h0 := newt_c (Keep.refl w _) 3 8 ⟨by decide, by decide⟩ ⟨by decide, by decide⟩
  go_enter Try.func5, Try.ntmps5
  go_wp2_with (first
    | (go_at_call 9
       refine h0.mono ?_
       rintro e w1 ⟨tb, s0, rfl, c0, -⟩
       have hmk := make_p c0 (by decide) right_x 1 3 0 0 0 ⟨#[116]⟩ (n := 2) (e := 0) (U := MT 3) (m_made 3 (mem3 (by decide))) rfl
       clear h0 c0)
    | (go_at_call 12
       refine (hw1 _).mono ?_
       rintro e w1 ⟨rfl, rfl⟩
       clear hw1)
    | (go_at_call 12
       refine (hw2 _).mono ?_
       rintro e w1 ⟨rfl, rfl⟩
       clear hw2)
    | (go_at_call 12
       refine (hw3 _).mono ?_
       rintro e w1 ⟨rfl, rfl⟩
       clear hw3)
    | (go_at_call 11
       refine (hmk _ (Keep.refl _ _)).mono ?_
       rintro e w2 ⟨rfl, s1, c1, -⟩
       have C1 := Lib.hid (show TCur w w2 tb s1 (HT 3 0) 8 _ from c1)
       clear hmk c1))
  go_loopg [12] hh (fun g s12 wr => ∃ (j : Nat) (s : TShape), s12 = .int .i64 j ∧ j + g = hh ∧ TCur w wr tb s (HT 3 j) 8 (10 + 3 * j))
  case atStart => exact ⟨0, s1, rfl, by omega, C1.out.more (by omega)⟩
  case round =>
    obtain ⟨j, s, rfl, hjg, hc⟩ := hrel
    have C := Lib.hid hc
    clear hc
    by_cases hlt : (j : Int) < (hh : Int)
    · have hho := hold_t C.out (by have := HH.out; omega) 2
      rw [h_held 3 (mem3 (by decide)) j (List.mem_range.2 (by have := HH.out; omega))] at hho
      have hj6 : j ≤ 6 := by have := HH.out; omega
      go_wp2_with (
        go_at_call 19
        refine (hho _ (Keep.refl _ _)).mono ?_
        rintro e w3 ⟨rfl, s3, c3, -⟩
        have C3 := Lib.hid (show TCur w w3 tb s3 (HT 3 (j + 1)) 8 _ from c3)
        clear hho c3)
      go_roundg (hh - (j + 1))
      case measure => omega
      case rel => exact ⟨j + 1, s3, by go_num, by omega, C3.out.more (by omega)⟩
    · have hjh : j = hh := by omega
      subst hjh
      have hj6 : j ≤ 6 := HH.out.1
      have CW := Lib.hid (show TCur w wr tb s (WT 3 j) 8 (10 + 3 * j) from C.out)
      -- the walk behind the holds
      have hpart := part_t CW.out (by omega) 1 kx
      rw [p_part 3 (mem3 (by decide)) j (List.mem_range.2 (by have := HH.out; omega))] at hpart
      go_upto_region 22 with (
        go_at_call 17
        refine (hpart _ (Keep.refl _ _)).mono ?_
        rintro e w2 ⟨rfl, s2, c2, -⟩
        have CP := Lib.hid (show TCur w w2 tb s2 (LT 3 j 0) 8 _ from c2)
        clear hpart c2)
      go_wp2
      go_loopg [13, 14, 15] ll (fun g s13 s14 s15 wr => ∃ (i : Nat) (s : TShape), s13 = .int .i64 ((j - i : Nat) : Int) ∧ s14 = .int .i64 i ∧ i + g = ll ∧ TCur w wr tb s (LT 3 j i) 8 (100 + 3 * i))
      case atStart => exact ⟨0, s2, rfl, rfl, by omega, CP.out.more (by have := HH.out; omega)⟩
      case round =>
        obtain ⟨i, s, rfl, rfl, hig, hc⟩ := hrel
        have C := Lib.hid hc
        clear hc
        by_cases hlt : (i : Int) < (ll : Int)
        · have hl8 : ll ≤ 8 := HH.out.2
          have hlo := loose_t C.out (by have := HH.out; omega) 2
          have hres := l_loose 3 (mem3 (by decide)) j (List.mem_range.2 (by have := HH.out; omega)) i (List.mem_range.2 (by have := HH.out; omega))
          rw [hres] at hlo
          by_cases hih : i < j
          · rw [if_pos hih] at hlo
            have hpos : (0 : Int) < ((j - i : Nat) : Int) := by omega
            have hdec : ((j - i : Nat) : Int) - 1 = ((j - (i + 1) : Nat) : Int) := by omega
            have hbnd : ((j - i : Nat) : Int) ≤ 6 := by have := HH.out; omega
            generalize ((j - i : Nat) : Int) = lf at *
            have HE := Lib.hid hdec
            clear hres hih hdec
            go_wp2_with (
              go_at_call 21
              refine (hlo _ (Keep.refl _ _)).mono ?_
              rintro e w3 ⟨rfl, s3, c3, -⟩
              have C3 := Lib.hid (show TCur w w3 tb s3 (LT 3 j (i + 1)) 8 _ from c3)
              clear hlo c3)
            go_roundg (ll - (i + 1))
            case measure => omega
            case rel => exact ⟨i + 1, s3, by rw [← HE.out], by go_num, by omega, C3.out.more (by omega)⟩
          · rw [if_neg hih] at hlo
            have hz : ((j - i : Nat) : Int) = 0 := by omega
            have hz2 : ((j - (i + 1) : Nat) : Int) = 0 := by omega
            rw [hz]
            have HE := Lib.hid hz2
            clear hres hih hz hz2
            go_wp2_with (
              go_at_call 21
              refine (hlo _ (Keep.refl _ _)).mono ?_
              rintro e w3 ⟨rfl, s3, c3, -⟩
              have C3 := Lib.hid (show TCur w w3 tb s3 (LT 3 j (i + 1)) 8 _ from c3)
              clear hlo c3)
            go_roundg (ll - (i + 1))
            case measure => omega
            case rel => exact ⟨i + 1, s3, by rw [HE.out], by go_num, by omega, C3.out.more (by omega)⟩
        · have hst := tstat_c C.out.tab (C.out.small.mono (by have := HH.out; omega)) 2
          have hil := List.mem_range.2 (show j < 7 by have := HH.out; omega)
          have hii := List.mem_range.2 (show i < 9 by have := HH.out; omega)
          have e1 := l_live 3 (mem3 (by decide)) j hil i hii
          have e2 := l_links 3 (mem3 (by decide)) j hil i hii
          obtain ⟨e3, e4⟩ := l_left 3 (mem3 (by decide)) j hil i hii
          by_cases hih : i < j
          · obtain ⟨⟨x0, x1, x2, x3, x4, x5, x6⟩, lv, hx⟩ : ∃ x b, (LT 3 j i).stat 2 = (x, b) := ⟨_, _, rfl⟩
            rw [hx] at e1 e2 hst
            simp only at e1 e2
            rw [show decide (i < j) = true from decide_eq_true hih] at e1
            subst e1 e2
            rw [if_pos hih] at e3 e4
            have hpos : (0 : Int) < ((j - i : Nat) : Int) := by omega
            have gz : (((j - i : Nat) : Int) == 0) = false := by simp; omega
            generalize ((j - i : Nat) : Int) = lf at *
            simp only [statC] at hst
            have E := Lib.hid (And.intro e3 e4)
            clear e3 e4 hx hih hil hii
            go_wp2_with (first
              | (go_at_call 14
                 refine hst.mono ?_
                 rintro e w4 ⟨rfl, k4⟩
                 have C4 := Lib.hid ((C.out.step k4).step (Keep.alloc w4 (.cells #[.int .i64 x0, .int .i64 x1, .int .i64 x2, .int .i64 x3, .int .i64 x4, .int .i64 0, .int .i64 x6] 28) _))
                 have b4 := heap_alloc_eq w4 (.cells #[.int .i64 x0, .int .i64 x1, .int .i64 x2, .int .i64 x3, .int .i64 x4, .int .i64 0, .int .i64 x6] 28)
                 have d0 := cell_blk b4 0
                 have d1 := cell_blk b4 1
                 have d2 := cell_blk b4 2
                 have d3 := cell_blk b4 3
                 have d4 := cell_blk b4 4
                 have d5 := cell_blk b4 5
                 have d6 := cell_blk b4 6
                 simp only [List.getElem?_toArray, List.getElem?_cons_zero, List.getElem?_cons_succ] at d0 d1 d2 d3 d4 d5 d6
                 have hlf := tleft_c C4.out.tab C4.out.good.ok.room
                 rw [E.out.1] at hlf
                 clear hst k4 b4)
              | (go_at_call 22
                 refine hlf.mono ?_
                 rintro e w5 ⟨rfl, k5⟩
                 have C5 := Lib.hid (C4.out.step k5)
                 have hlv := tlive_c C5.out.tab C5.out.good.ok
                 rw [E.out.2] at hlv
                 clear hlf k5)
              | (go_at_call 23
                 refine hlv.mono ?_
                 rintro e w6 ⟨v6, rfl, r1, r2, r3⟩
                 obtain ⟨va, vc, rfl, -⟩ := rows_val2 r1
                 have C6 := Lib.hid (C5.out.step r2)
                 have hlv2 := tlive_c C6.out.tab C6.out.good.ok
                 rw [E.out.2] at hlv2
                 clear hlv r1 r2 r3)
              | (go_at_call 23
                 refine hlv2.mono ?_
                 rintro e w7 ⟨v7, rfl, r1, r2, r3⟩
                 obtain ⟨vb, vd, rfl, -⟩ := rows_val2 r1
                 have C7 := Lib.hid (C6.out.step r2)
                 have hK := tknown_c w7
                 clear hlv2 r1 r2 r3)
              | (go_at_call 16
                 refine hK.mono ?_
                 rintro e wk ⟨rfl, kk⟩
                 have CK := Lib.hid (C7.out.step kk)
                 clear hK kk))
            go_ret
            exact ⟨rfl, CK.out.below⟩
          · have hd := stat_dead (T := LT 3 j i) (n := 2) (by rw [e1]; exact decide_eq_false hih)
            rw [hd] at hst
            rw [if_neg hih] at e3 e4
            have hz : ((j - i : Nat) : Int) = 0 := by omega
            rw [hz]
            simp only [statC] at hst
            have E := Lib.hid (And.intro e3 e4)
            clear e1 e2 e3 e4 hd hih hil hii hz
            go_wp2_with (first
              | (go_at_call 14
                 refine hst.mono ?_
                 rintro e w4 ⟨rfl, k4⟩
                 have C4 := Lib.hid ((C.out.step k4).step (Keep.alloc w4 (.cells #[.int .i64 0, .int .i64 0, .int .i64 0, .int .i64 0, .int .i64 0, .int .i64 0, .int .i64 0] 28) _))
                 have b4 := heap_alloc_eq w4 (.cells #[.int .i64 0, .int .i64 0, .int .i64 0, .int .i64 0, .int .i64 0, .int .i64 0, .int .i64 0] 28)
                 have d0 := cell_blk b4 0
                 have d1 := cell_blk b4 1
                 have d2 := cell_blk b4 2
                 have d3 := cell_blk b4 3
                 have d4 := cell_blk b4 4
                 have d5 := cell_blk b4 5
                 have d6 := cell_blk b4 6
                 simp only [List.getElem?_toArray, List.getElem?_cons_zero, List.getElem?_cons_succ] at d0 d1 d2 d3 d4 d5 d6
                 have hlf := tleft_c C4.out.tab C4.out.good.ok.room
                 rw [E.out.1] at hlf
                 clear hst k4 b4)
              | (go_at_call 22
                 refine hlf.mono ?_
                 rintro e w5 ⟨rfl, k5⟩
                 have C5 := Lib.hid (C4.out.step k5)
                 have hlv := tlive_c C5.out.tab C5.out.good.ok
                 rw [E.out.2] at hlv
                 clear hlf k5)
              | (go_at_call 23
                 refine hlv.mono ?_
                 rintro e w6 ⟨v6, rfl, r1, r2, r3⟩
                 obtain ⟨va, vc, rfl, -⟩ := rows_val2 r1
                 have C6 := Lib.hid (C5.out.step r2)
                 have hlv2 := tlive_c C6.out.tab C6.out.good.ok
                 rw [E.out.2] at hlv2
                 clear hlv r1 r2 r3)
              | (go_at_call 23
                 refine hlv2.mono ?_
                 rintro e w7 ⟨v7, rfl, r1, r2, r3⟩
                 obtain ⟨vb, vd, rfl, -⟩ := rows_val2 r1
                 have C7 := Lib.hid (C6.out.step r2)
                 have hK := tknown_c w7
                 clear hlv2 r1 r2 r3)
              | (go_at_call 16
                 refine hK.mono ?_
                 rintro e wk ⟨rfl, kk⟩
                 have CK := Lib.hid (C7.out.step kk)
                 clear hK kk))
            go_ret
            exact ⟨rfl, CK.out.below⟩


/-- Within answers the same wherever it is asked. -/
theorem within_at (n lo hi : Int) (h0 : 0 ≤ lo) (h1 : lo ≤ hi) (h2 : hi ≤ 1000000) : ∃ m : Int, lo ≤ m ∧ m ≤ hi ∧ ∀ U, Calls Try.prog 12 #[.int .i64 n, .int .i64 lo, .int .i64 hi] U fun r w' => r = .returned (.int .i64 m) ∧ U = w' := by
  have hd : 0 < hi - lo + 1 := by omega
  by_cases hn : 0 ≤ n
  · have hm := Int.emod_nonneg n (b := hi - lo + 1) (by omega)
    have hm2 := Int.emod_lt_of_pos n hd
    refine ⟨lo + n % (hi - lo + 1), by omega, by omega, fun U => ?_⟩
    go_enter Try.func12, Try.ntmps12
    go_wp2
    go_ret
    exact ⟨rfl, rfl⟩
  · have hm : -(hi - lo + 1) < n.tmod (hi - lo + 1) ∧ n.tmod (hi - lo + 1) ≤ 0 := by
      have e : (-n).tmod (hi - lo + 1) = (-n) % (hi - lo + 1) := Int.tmod_eq_emod_of_nonneg (by omega)
      rw [Int.neg_tmod] at e
      have h3 := Int.emod_nonneg (-n) (b := hi - lo + 1) (by omega)
      have h4 := Int.emod_lt_of_pos (-n) hd
      omega
    obtain ⟨hm1, hm2⟩ := hm
    by_cases ht : n.tmod (hi - lo + 1) < 0
    · refine ⟨lo + (n.tmod (hi - lo + 1) + hi - lo + 1), by omega, by omega, fun U => ?_⟩
      go_enter Try.func12, Try.ntmps12
      go_wp2
      go_ret
      exact ⟨rfl, rfl⟩
    · refine ⟨lo + n.tmod (hi - lo + 1), by omega, by omega, fun U => ?_⟩
      go_enter Try.func12, Try.ntmps12
      go_wp2
      go_ret
      exact ⟨rfl, rfl⟩

theorem holds_walk (n1 n2 n3 : Int) (w : World) (_h1 : (Lit.int .i64 n1).wf = true) (_h2 : (Lit.int .i64 n2).wf = true) (_h3 : (Lit.int .i64 n3).wf = true) :
    Calls Try.prog 5 #[.int .i64 n1, .int .i64 n2, .int .i64 n3] w fun r w' => r = .returned (.bool true) ∧ Below w.heap.size w w' := by
  obtain ⟨a, a0, a1, hw1⟩ := within_at n1 0 6 (by decide) (by decide) (by decide)
  obtain ⟨b, b0, b1, hw2⟩ := within_at n2 0 8 (by decide) (by decide) (by decide)
  obtain ⟨c, c0, c1, hw3⟩ := within_at n3 0 2 (by decide) (by decide) (by decide)
  obtain ⟨hh, rfl⟩ : ∃ h : Nat, a = (h : Int) := ⟨a.toNat, by omega⟩
  obtain ⟨ll, rfl⟩ : ∃ h : Nat, b = (h : Int) := ⟨b.toNat, by omega⟩
  have HH := Lib.hid (show hh ≤ 6 ∧ ll ≤ 8 by omega)
  rcases (by omega : c = 0 ∨ c = 1 ∨ c = 2) with rfl | rfl | rfl
  · exact holds_walk1 w n1 n2 n3 hh ll HH hw1 hw2 hw3
  · exact holds_walk2 w n1 n2 n3 hh ll HH hw1 hw2 hw3
  · exact holds_walk3 w n1 n2 n3 hh ll HH hw1 hw2 hw3

end Go.Proofs.Ytnjfcedkfobbcaa
