/-
  A result is told (call.Show).
-/
import Derived.Test.YtdbkkfhneafeiaaDoorShow0
import Derived.Deep.CutRange
namespace Go.Proofs.YtdbkkfhneafeiaaDoor
open Go Go.RowKit Go.Shelf
set_option linter.unusedSectionVars false
set_option linter.unusedSimpArgs false
set_option linter.unusedVariables false
set_option maxRecDepth 100000
attribute [local go_sem] Oper.semAt_some

/-- The word of the names. -/
def namesP (ns : List Bs) : Bs := [110, 97, 109, 101, 115, 61] ++ Lib.join (ns.map shownP) [44]
def lineNames (L ns : List Bs) : List Bs := if ns = [] then L else L ++ [namesP ns]

def show1L (why n : Int) (data : Bs) (ns : List Bs) (s0 s1 s2 s3 s4 s5 s6 : Int) : List Bs :=
  lineNum (lineNum (lineNum (lineNum (lineNum (lineNum (lineNum (lineNames (lineText (lineNum (showHead why) [110, 61] n (Lib.itoa n)) [100, 97, 116, 97, 61] data) ns) [110, 111, 100, 101, 61] s0 (Lib.itoa s0)) [107, 105, 110, 100, 61] s1 (Lib.itoa s1)) [109, 111, 100, 101, 61] s2 (Lib.itoa s2)) [117, 105, 100, 61] s3 (Lib.itoa s3)) [103, 105, 100, 61] s4 (Lib.itoa s4)) [108, 105, 110, 107, 115, 61] s5 (Lib.itoa s5)) [115, 105, 122, 101, 61] s6 (Lib.itoa s6)

theorem mem_sumL {y : Bs} {ns : List Bs} (h : y ∈ ns) : y.length ≤ sumL ns := by
  induction ns with
  | nil => cases h
  | cons x r ih =>
    unfold sumL at *
    simp only [List.map_cons, List.sum_cons]
    rcases List.mem_cons.1 h with rfl | h
    · omega
    · have := ih h
      omega

theorem names_len (ns : List Bs) : (Lib.join (ns.map shownP) [44]).length ≤ 3 * sumL ns + ns.length := by
  have h := join_small (L := ns.map shownP) (sep := [44]) rfl
  have h2 : sumL (ns.map shownP) ≤ 3 * sumL ns := by
    induction ns with
    | nil => simp [sumL]
    | cons x r ih =>
      have := shownP_len x
      have ih := ih (join_small rfl)
      unfold sumL at *
      simp only [List.map_cons, List.sum_cons]
      omega
  rw [List.length_map] at h
  omega

set_option maxHeartbeats 4000000 in
theorem show1_c (why n : Int) (data : Bs) (ns : List Bs) (s0 s1 s2 s3 s4 s5 s6 : Int) (a an : Option Addr) (cap capn : Nat) (w : World) (ht : Tabs w) (hd : BSr w (.slice a data.length cap) data)
    (hz : ∀ z ∈ [why, n, s0, s1, s2, s3, s4, s5, s6], -9223372036854775808 ≤ z ∧ z ≤ 9223372036854775807) (hl : data.length ≤ 100000000) (hn : ListIn w (.slice an ns.length capn) (ns.map stV)) (hnl : ns.length ≤ 2000000 ∧ sumL ns ≤ 100000000) :
    Calls Tryd.prog 20 #[.agg #[.int .i64 why, .int .i64 n, .slice a data.length cap, .slice an ns.length capn, .int .i64 s0, .int .i64 s1, .int .i64 s2, .int .i64 s3, .int .i64 s4, .int .i64 s5, .int .i64 s6]] w fun r w' => r = .returned (.string (strB (Lib.join (show1L why n data ns s0 s1 s2 s3 s4 s5 s6) [32]))) ∧ Keep w w' (fun _ => False) := by
  obtain ⟨W1, hW1⟩ : ∃ W1, W1 = w.alloc (.cells #[.int .i64 why, .int .i64 n, .slice a data.length cap, .slice an ns.length capn, .int .i64 s0, .int .i64 s1, .int .i64 s2, .int .i64 s3, .int .i64 s4, .int .i64 s5, .int .i64 s6] 48) := ⟨_, rfl⟩
  have k1 := Keep.alloc w (.cells #[.int .i64 why, .int .i64 n, .slice a data.length cap, .slice an ns.length capn, .int .i64 s0, .int .i64 s1, .int .i64 s2, .int .i64 s3, .int .i64 s4, .int .i64 s5, .int .i64 s6] 48) (fun _ => False)
  have b1 := heap_alloc_eq w (.cells #[.int .i64 why, .int .i64 n, .slice a data.length cap, .slice an ns.length capn, .int .i64 s0, .int .i64 s1, .int .i64 s2, .int .i64 s3, .int .i64 s4, .int .i64 s5, .int .i64 s6] 48)
  have z1 : (w.alloc (.cells #[.int .i64 why, .int .i64 n, .slice a data.length cap, .slice an ns.length capn, .int .i64 s0, .int .i64 s1, .int .i64 s2, .int .i64 s3, .int .i64 s4, .int .i64 s5, .int .i64 s6] 48)).heap.size = w.heap.size + 1 := by simp
  rw [← hW1] at k1 b1 z1
  have D := Lib.hid (And.intro k1 (And.intro b1 (And.intro z1 (And.intro (ht.keep k1) (And.intro (hd.aside k1) (hn.aside k1))))))
  have HZ := Lib.hid hz
  obtain ⟨nl, hnl2⟩ : ∃ nl, nl = ns.length := ⟨_, rfl⟩
  rw [← hnl2] at D hW1 ⊢
  have HNL := Lib.hid (And.intro hnl2 hnl)
  have hnl9 : nl ≤ 2000000 := by omega
  clear k1 b1 z1 ht hd hz hn hnl2 hnl
  go_enter Tryd.func20, Tryd.ntmps20
  go_upto_region 1 with (fail)
  rw [← hW1]
  clear hW1
  obtain ⟨W2, hW2⟩ : ∃ W2, W2 = ((W1.alloc (.cells #[.string ⟨#[111, 107]⟩] 9)).alloc (.cells #[.slice (some ⟨W1.heap.size, 0, none⟩) 1 1] 73)) := ⟨_, rfl⟩
  have hL0 : LineAt W1 (W1.heap.size + 1) (.slice (some ⟨W1.heap.size, 0, none⟩) 1 1) [[111, 107]] W2 := by rw [hW2]; exact line_new (w := W1) (U := W1) [111, 107] (Keep.refl _ _)
  go_upto_region 2 with (fail)
  rw [← hW2]
  obtain ⟨b, hb⟩ : ∃ b, b = W1.heap.size + 1 := ⟨_, rfl⟩
  rw [← hb] at hL0 ⊢
  have hbx : w.heap.size < b := by have := D.out.2.2.1; omega
  have e0 := cell_blk hL0.cell 0
  have f0 := free_blk hL0.cell 0
  have d0 := cell_blk (hL0.keep.get D.out.2.1 (fun q => q)) 0
  simp only [List.getElem?_toArray, List.getElem?_cons_zero] at e0 d0
  have E0 := Lib.hid hL0
  have hne : ¬ w.heap.size = b := by omega
  have hne2 : ¬ b = w.heap.size := by omega
  clear hW2 hL0 hb
  go_upto_if 10 with (fail)
  go_cut [] from 7 (fun wc => ∃ v, LineAt W1 b v (showHead why) wc)
  case first =>
    by_cases h0 : why = 0
    · subst h0
      go_wp2
      go_meet
      case rel => exact ⟨_, E0.out⟩
    · have hb0 : (why != 0) = true := by simp [h0]
      have hrng := HZ.out why (by simp)
      have hit : Calls Tryd.prog 38 #[.int .i64 why] W2 fun e w' => e = .returned (.string (strB (Lib.itoa why))) ∧ Keep W2 w' (fun _ => False) := by
        refine (Tryd.strconv_Itoa why hrng.1 hrng.2 W2 (D.out.2.2.2.1.keep E0.out.keep).pow).mono ?_
        rintro e w' ⟨rfl, kk, os, rfl⟩
        exact ⟨rfl, grow_keep _ _ _⟩
      obtain ⟨T, hT⟩ : ∃ T, T = strB (Lib.itoa why) := ⟨_, rfl⟩
      rw [← hT] at hit
      have HT := Lib.hid (And.intro hT h0)
      clear hT hrng
      go_wp2_with (
        go_at_call 38
        with_reducible refine hit.mono ?_
        rintro e w3 ⟨rfl, hk3⟩
        have k3 := hk3.trans (Keep.alloc w3 (.cells #[.string ⟨#[101, 114, 114, 111, 114]⟩, .string T] 9) (fun _ => False)) (fun _ q => q.elim)
        have e3 := k3.cell e0 (fun q => q)
        have f3 := free_blk (k3.get E0.out.cell (fun q => q)) 0
        have K3 := Lib.hid hk3
        clear hk3 k3)
      go_meet
      case rel =>
        have h := line_two E0.out [101, 114, 114, 111, 114] (Lib.itoa why) w3 K3.out
        refine ⟨.slice (some ⟨w3.heap.size, 0, none⟩) 2 2, ?_⟩
        unfold showHead
        rw [if_neg HT.out.2]
        have e : stV (Lib.itoa why) = .string T := by rw [HT.out.1]
        rw [e] at h
        exact h
  case rest =>
    obtain ⟨v0, hL0⟩ := hcut
    have F0 := Lib.hid hL0
    have c1 := cell_blk (hL0.keep.get D.out.2.1 (fun q => q)) 1
    simp only [List.getElem?_toArray, List.getElem?_cons_zero, List.getElem?_cons_succ] at c1
    clear hL0 e0 d0 f0 E0
    have hl0 := showHead_len why
    have hs0 := showHead_sum why (HZ.out why (by simp)).1 (HZ.out why (by simp)).2
    obtain ⟨L0, hL0⟩ : ∃ L0, L0 = showHead why := ⟨_, rfl⟩
    rw [← hL0] at F0 hl0 hs0
    obtain ⟨L1, hL1⟩ : ∃ L1, L1 = lineNum L0 [110, 61] n (Lib.itoa n) := ⟨_, rfl⟩
    have hl1 := lineNum_len L0 [110, 61] n (Lib.itoa n)
    have hs1 := lineNum_sum L0 [110, 61] n (Lib.itoa n)
    have hi1 := itoa_len n (HZ.out n (by simp)).1 (HZ.out n (by simp)).2
    rw [← hL1] at hl1 hs1
    simp only [List.length_cons, List.length_nil] at hs1
    have n1 : ∀ (v : Value) (U : World), LineAt W1 b v L0 U → Calls Tryd.prog 35 #[.pointer (some ⟨b, 0, none⟩), .string ⟨#[110, 61]⟩, .int .i64 n] U fun r w' => (∃ u, r = .returned u) ∧ ∃ v', LineAt W1 b v' L1 w' := fun v U h =>
      (lnum_c [110, 61] n h (by omega) (HZ.out n (by simp)).1 (HZ.out n (by simp)).2 (D.out.2.2.2.1.keep h.keep) (by simp)).mono fun _ _ q => ⟨q.1, q.2.1.choose, by rw [hL1]; exact q.2.1.choose_spec.1⟩
    obtain ⟨L2, hL2⟩ : ∃ L2, L2 = lineText L1 [100, 97, 116, 97, 61] data := ⟨_, rfl⟩
    have hl2 := lineText_len L1 [100, 97, 116, 97, 61] data
    have hs2 := lineText_sum L1 [100, 97, 116, 97, 61] data
    rw [← hL2] at hl2 hs2
    simp only [List.length_cons, List.length_nil] at hs2
    have n2 : ∀ (v : Value) (U : World), LineAt W1 b v L1 U → Calls Tryd.prog 34 #[.pointer (some ⟨b, 0, none⟩), .string ⟨#[100, 97, 116, 97, 61]⟩, .string (strB data)] U fun r w' => (∃ u, r = .returned u) ∧ ∃ v', LineAt W1 b v' L2 w' := fun v U h =>
      (ltext_c [100, 97, 116, 97, 61] data h (by omega) (by omega) (by simp)).mono fun _ _ q => ⟨q.1, q.2.1.choose, by rw [hL2]; exact q.2.1.choose_spec.1⟩
    obtain ⟨L3, hL3⟩ : ∃ L3, L3 = lineNames L2 ns := ⟨_, rfl⟩
    have hl3 : L3.length ≤ L2.length + 1 := by rw [hL3]; unfold lineNames; split <;> simp
    have hs3 : sumL L3 ≤ sumL L2 + (6 + (3 * sumL ns + ns.length)) := by
      have := names_len ns
      rw [hL3]
      unfold lineNames sumL at *
      split
      · omega
      · simp only [List.map_append, List.map_cons, List.map_nil, List.sum_append, List.sum_cons, List.sum_nil, namesP, List.length_append, List.length_cons, List.length_nil]
        omega
    have hns9 := HNL.out.2
    obtain ⟨L4, hL4⟩ : ∃ L4, L4 = lineNum L3 [110, 111, 100, 101, 61] s0 (Lib.itoa s0) := ⟨_, rfl⟩
    have hl4 := lineNum_len L3 [110, 111, 100, 101, 61] s0 (Lib.itoa s0)
    have hs4 := lineNum_sum L3 [110, 111, 100, 101, 61] s0 (Lib.itoa s0)
    have hi4 := itoa_len s0 (HZ.out s0 (by simp)).1 (HZ.out s0 (by simp)).2
    rw [← hL4] at hl4 hs4
    simp only [List.length_cons, List.length_nil] at hs4
    have n4 : ∀ (v : Value) (U : World), LineAt W1 b v L3 U → Calls Tryd.prog 35 #[.pointer (some ⟨b, 0, none⟩), .string ⟨#[110, 111, 100, 101, 61]⟩, .int .i64 s0] U fun r w' => (∃ u, r = .returned u) ∧ ∃ v', LineAt W1 b v' L4 w' := fun v U h =>
      (lnum_c [110, 111, 100, 101, 61] s0 h (by omega) (HZ.out s0 (by simp)).1 (HZ.out s0 (by simp)).2 (D.out.2.2.2.1.keep h.keep) (by simp)).mono fun _ _ q => ⟨q.1, q.2.1.choose, by rw [hL4]; exact q.2.1.choose_spec.1⟩
    obtain ⟨L5, hL5⟩ : ∃ L5, L5 = lineNum L4 [107, 105, 110, 100, 61] s1 (Lib.itoa s1) := ⟨_, rfl⟩
    have hl5 := lineNum_len L4 [107, 105, 110, 100, 61] s1 (Lib.itoa s1)
    have hs5 := lineNum_sum L4 [107, 105, 110, 100, 61] s1 (Lib.itoa s1)
    have hi5 := itoa_len s1 (HZ.out s1 (by simp)).1 (HZ.out s1 (by simp)).2
    rw [← hL5] at hl5 hs5
    simp only [List.length_cons, List.length_nil] at hs5
    have n5 : ∀ (v : Value) (U : World), LineAt W1 b v L4 U → Calls Tryd.prog 35 #[.pointer (some ⟨b, 0, none⟩), .string ⟨#[107, 105, 110, 100, 61]⟩, .int .i64 s1] U fun r w' => (∃ u, r = .returned u) ∧ ∃ v', LineAt W1 b v' L5 w' := fun v U h =>
      (lnum_c [107, 105, 110, 100, 61] s1 h (by omega) (HZ.out s1 (by simp)).1 (HZ.out s1 (by simp)).2 (D.out.2.2.2.1.keep h.keep) (by simp)).mono fun _ _ q => ⟨q.1, q.2.1.choose, by rw [hL5]; exact q.2.1.choose_spec.1⟩
    obtain ⟨L6, hL6⟩ : ∃ L6, L6 = lineNum L5 [109, 111, 100, 101, 61] s2 (Lib.itoa s2) := ⟨_, rfl⟩
    have hl6 := lineNum_len L5 [109, 111, 100, 101, 61] s2 (Lib.itoa s2)
    have hs6 := lineNum_sum L5 [109, 111, 100, 101, 61] s2 (Lib.itoa s2)
    have hi6 := itoa_len s2 (HZ.out s2 (by simp)).1 (HZ.out s2 (by simp)).2
    rw [← hL6] at hl6 hs6
    simp only [List.length_cons, List.length_nil] at hs6
    have n6 : ∀ (v : Value) (U : World), LineAt W1 b v L5 U → Calls Tryd.prog 35 #[.pointer (some ⟨b, 0, none⟩), .string ⟨#[109, 111, 100, 101, 61]⟩, .int .i64 s2] U fun r w' => (∃ u, r = .returned u) ∧ ∃ v', LineAt W1 b v' L6 w' := fun v U h =>
      (lnum_c [109, 111, 100, 101, 61] s2 h (by omega) (HZ.out s2 (by simp)).1 (HZ.out s2 (by simp)).2 (D.out.2.2.2.1.keep h.keep) (by simp)).mono fun _ _ q => ⟨q.1, q.2.1.choose, by rw [hL6]; exact q.2.1.choose_spec.1⟩
    obtain ⟨L7, hL7⟩ : ∃ L7, L7 = lineNum L6 [117, 105, 100, 61] s3 (Lib.itoa s3) := ⟨_, rfl⟩
    have hl7 := lineNum_len L6 [117, 105, 100, 61] s3 (Lib.itoa s3)
    have hs7 := lineNum_sum L6 [117, 105, 100, 61] s3 (Lib.itoa s3)
    have hi7 := itoa_len s3 (HZ.out s3 (by simp)).1 (HZ.out s3 (by simp)).2
    rw [← hL7] at hl7 hs7
    simp only [List.length_cons, List.length_nil] at hs7
    have n7 : ∀ (v : Value) (U : World), LineAt W1 b v L6 U → Calls Tryd.prog 35 #[.pointer (some ⟨b, 0, none⟩), .string ⟨#[117, 105, 100, 61]⟩, .int .i64 s3] U fun r w' => (∃ u, r = .returned u) ∧ ∃ v', LineAt W1 b v' L7 w' := fun v U h =>
      (lnum_c [117, 105, 100, 61] s3 h (by omega) (HZ.out s3 (by simp)).1 (HZ.out s3 (by simp)).2 (D.out.2.2.2.1.keep h.keep) (by simp)).mono fun _ _ q => ⟨q.1, q.2.1.choose, by rw [hL7]; exact q.2.1.choose_spec.1⟩
    obtain ⟨L8, hL8⟩ : ∃ L8, L8 = lineNum L7 [103, 105, 100, 61] s4 (Lib.itoa s4) := ⟨_, rfl⟩
    have hl8 := lineNum_len L7 [103, 105, 100, 61] s4 (Lib.itoa s4)
    have hs8 := lineNum_sum L7 [103, 105, 100, 61] s4 (Lib.itoa s4)
    have hi8 := itoa_len s4 (HZ.out s4 (by simp)).1 (HZ.out s4 (by simp)).2
    rw [← hL8] at hl8 hs8
    simp only [List.length_cons, List.length_nil] at hs8
    have n8 : ∀ (v : Value) (U : World), LineAt W1 b v L7 U → Calls Tryd.prog 35 #[.pointer (some ⟨b, 0, none⟩), .string ⟨#[103, 105, 100, 61]⟩, .int .i64 s4] U fun r w' => (∃ u, r = .returned u) ∧ ∃ v', LineAt W1 b v' L8 w' := fun v U h =>
      (lnum_c [103, 105, 100, 61] s4 h (by omega) (HZ.out s4 (by simp)).1 (HZ.out s4 (by simp)).2 (D.out.2.2.2.1.keep h.keep) (by simp)).mono fun _ _ q => ⟨q.1, q.2.1.choose, by rw [hL8]; exact q.2.1.choose_spec.1⟩
    obtain ⟨L9, hL9⟩ : ∃ L9, L9 = lineNum L8 [108, 105, 110, 107, 115, 61] s5 (Lib.itoa s5) := ⟨_, rfl⟩
    have hl9 := lineNum_len L8 [108, 105, 110, 107, 115, 61] s5 (Lib.itoa s5)
    have hs9 := lineNum_sum L8 [108, 105, 110, 107, 115, 61] s5 (Lib.itoa s5)
    have hi9 := itoa_len s5 (HZ.out s5 (by simp)).1 (HZ.out s5 (by simp)).2
    rw [← hL9] at hl9 hs9
    simp only [List.length_cons, List.length_nil] at hs9
    have n9 : ∀ (v : Value) (U : World), LineAt W1 b v L8 U → Calls Tryd.prog 35 #[.pointer (some ⟨b, 0, none⟩), .string ⟨#[108, 105, 110, 107, 115, 61]⟩, .int .i64 s5] U fun r w' => (∃ u, r = .returned u) ∧ ∃ v', LineAt W1 b v' L9 w' := fun v U h =>
      (lnum_c [108, 105, 110, 107, 115, 61] s5 h (by omega) (HZ.out s5 (by simp)).1 (HZ.out s5 (by simp)).2 (D.out.2.2.2.1.keep h.keep) (by simp)).mono fun _ _ q => ⟨q.1, q.2.1.choose, by rw [hL9]; exact q.2.1.choose_spec.1⟩
    obtain ⟨L10, hL10⟩ : ∃ L10, L10 = lineNum L9 [115, 105, 122, 101, 61] s6 (Lib.itoa s6) := ⟨_, rfl⟩
    have hl10 := lineNum_len L9 [115, 105, 122, 101, 61] s6 (Lib.itoa s6)
    have hs10 := lineNum_sum L9 [115, 105, 122, 101, 61] s6 (Lib.itoa s6)
    have hi10 := itoa_len s6 (HZ.out s6 (by simp)).1 (HZ.out s6 (by simp)).2
    rw [← hL10] at hl10 hs10
    simp only [List.length_cons, List.length_nil] at hs10
    have n10 : ∀ (v : Value) (U : World), LineAt W1 b v L9 U → Calls Tryd.prog 35 #[.pointer (some ⟨b, 0, none⟩), .string ⟨#[115, 105, 122, 101, 61]⟩, .int .i64 s6] U fun r w' => (∃ u, r = .returned u) ∧ ∃ v', LineAt W1 b v' L10 w' := fun v U h =>
      (lnum_c [115, 105, 122, 101, 61] s6 h (by omega) (HZ.out s6 (by simp)).1 (HZ.out s6 (by simp)).2 (D.out.2.2.2.1.keep h.keep) (by simp)).mono fun _ _ q => ⟨q.1, q.2.1.choose, by rw [hL10]; exact q.2.1.choose_spec.1⟩
    have HSM := Lib.hid (show (Lib.join L10 [32]).length ≤ 100000000000 ∧ L10.length ≤ 1000000000 by
      have s6 := join_small (L := L10) (sep := [32]) rfl
      exact ⟨by omega, by omega⟩)
    have HEQ := Lib.hid (show L10 = show1L why n data ns s0 s1 s2 s3 s4 s5 s6 by rw [hL10, hL9, hL8, hL7, hL6, hL5, hL4, hL3, hL2, hL1, hL0]; rfl)
    have HL3 := Lib.hid (And.intro hL3 hl2)
    have hl29 : L2.length ≤ 10 := by omega
    clear hl0 hs0 hL0 hns9 hl1 hs1 hi1 hL1 hl2 hs2 hL2 hl3 hs3 hL3 hl4 hs4 hi4 hL4 hl5 hs5 hi5 hL5 hl6 hs6 hi6 hL6 hl7 hs7 hi7 hL7 hl8 hs8 hi8 hL8 hl9 hs9 hi9 hL9 hl10 hs10 hi10 hL10
    go_upto_if 25 with (first
      | (go_at_call 35
         with_reducible refine (n1 _ _ F0.out).mono ?_
         rintro e w11 ⟨⟨u1, rfl⟩, v1, hF⟩
         have F1 := Lib.hid hF
         have c2 := cell_blk (hF.keep.get D.out.2.1 (fun q => q)) 2
         simp only [List.getElem?_toArray, List.getElem?_cons_zero, List.getElem?_cons_succ] at c2
         have hcv := str_ofr (P := Tryd.prog) 22 9 Tryd.underlying22 Tryd.underlying5 Tryd.underlying9 (D.out.2.2.2.2.1.aside hF.keep)
         clear hF)
      | (go_at_call 34
         with_reducible refine (n2 _ _ F1.out).mono ?_
         rintro e w12 ⟨⟨u2, rfl⟩, v2, hF⟩
         have F2 := Lib.hid hF
         have cn := cell_blk (hF.keep.get D.out.2.1 (fun q => q)) 3
         simp only [List.getElem?_toArray, List.getElem?_cons_zero, List.getElem?_cons_succ] at cn
         clear hF))
    go_cut [25] from 7 (fun s25 wc => (∃ t, s25 = .bool t) ∧ ∃ v, LineAt W1 b v L3 wc)
    case first =>
      by_cases hn0 : nl = 0
      · have g1 : ¬ (0 : Int) < (nl : Int) := by omega
        have hns : ns = [] := List.length_eq_zero_iff.1 (by rw [← HNL.out.1]; exact hn0)
        have HH := Lib.hid hns
        rw [show decide (0 < nl) = false from decide_eq_false (by omega)]
        clear hns hn0
        go_wp2
        go_meet
        case rel => exact ⟨⟨_, rfl⟩, v2, by rw [HL3.out.1, lineNames, if_pos HH.out]; exact F2.out⟩
      · have g1 : (0 : Int) < (nl : Int) := by omega
        have g0 : 0 < nl := by omega
        have hns : ns ≠ [] := fun e => hn0 (by rw [HNL.out.1, e]; rfl)
        have HH := Lib.hid hns
        clear hns hn0
        obtain ⟨ti, ti1, ti2, ti3, ti4⟩ := str_info
        have HI := Lib.hid (And.intro ti1 (And.intro ti2 (And.intro ti3 ti4)))
        clear ti1 ti2 ti3 ti4
        have hz1 : (Value.string ByteArray.empty).cells.size = 1 := rfl
        rw [show decide (0 < nl) = true from decide_eq_true g0]
        go_wp2
        go_loopg [4, 29] nl (fun g s4 s29 wr => ∃ k : Nat, s29 = .int .i64 k ∧ k + g = nl ∧ Made w12 wr 9 s4 ((ns.take k).map fun x => stV (shownP x)))
        case atStart => exact ⟨0, rfl, by omega, Made.nil w12 9⟩
        case round =>
          obtain ⟨k, rfl, hk, hM⟩ := hrel
          obtain ⟨q3, hq3⟩ : ∃ q3, ((ns.take k).map fun x => stV (shownP x)).length = q3 := ⟨_, rfl⟩
          have hq9 : q3 ≤ 2000000 := by have := HNL.out; rw [← hq3, List.length_map, List.length_take]; omega
          have M := Lib.hid hM
          obtain ⟨a5, c5, rfl⟩ := hM.valn hq3
          have HQ3 := Lib.hid hq3
          clear hM hq3
          by_cases hlk : k < nl
          · have g3 : (k : Int) < (nl : Int) := by omega
            obtain ⟨y, hy⟩ : ∃ y, ns[k]? = some y := ⟨_, List.getElem?_eq_getElem (by rw [← HNL.out.1]; exact hlk)⟩
            have hli := D.out.2.2.2.2.2
            obtain ⟨bo, off, rfl, -, hcells⟩ := hli.some (by rw [List.length_map, ← HNL.out.1]; omega)
            have hcy := ((F2.out.keep).trans M.out.keep (fun _ q => q.elim)).cell (hcells k _ (mapGet (f := stV) hy)) (fun q => q)
            have hyl : y.length ≤ 100000000 := by
              have hm := List.mem_of_getElem? hy
              have h2 := HNL.out.2.2
              have h3 : y.length ≤ sumL ns := mem_sumL hm
              omega
            have hsh := fun U => shown_c y U (by omega)
            have HY := Lib.hid (show (ns.take (k + 1)).map (fun x => stV (shownP x)) = (ns.take k).map (fun x => stV (shownP x)) ++ [stV (shownP y)] by rw [List.take_add_one, hy]; simp)
            clear hcells hli hy
            go_wp2_with (first
              | (go_at_call 39
                 refine (hsh _).mono ?_
                 rintro e w7 ⟨rfl, hk7⟩
                 have M7 := Lib.hid (M.out.aside hk7)
                 clear hk7)
              | (at_builtin
                 refine law_push rfl _ _ _ rfl Tryd.underlying44 HI.out.1 HI.out.2.1 HI.out.2.2.1 HI.out.2.2.2 hz1 M7.out rfl (stV (shownP y)) rfl rfl HQ3.out (by omega) ?_
                 intro a8 cap8 w8 hM8 _ _
                 have M8 := Lib.hid hM8
                 clear hM8))
            go_roundg (nl - (k + 1))
            case measure => omega
            case rel => exact ⟨k + 1, rfl, by omega, by rw [HY.out]; exact M8.out⟩
          · have g3 : ¬ (k : Int) < (nl : Int) := by omega
            have hk2 : ns.take k = ns := List.take_of_length_le (by rw [← HNL.out.1]; omega)
            rw [hk2] at M HQ3
            obtain ⟨W5, hwr⟩ : ∃ W5, W5 = wr := ⟨_, rfl⟩
            subst hwr
            have F5 := Lib.hid (F2.out.aside M.out.keep)
            have hjl : (Lib.join (ns.map shownP) [44]).length ≤ 100000000000 := by have := names_len ns; have := HNL.out.2; omega
            have hjn : ∀ U, Keep W5 U (fun _ => False) → Calls Tryd.prog 36 #[.slice a5 q3 c5, .string ⟨#[44]⟩] U fun e w' => e = .returned (.string (strB (Lib.join (ns.map shownP) [44]))) ∧ Keep U w' (fun _ => False) := fun U kU =>
              join_c (L := ns.map shownP) (sep := [44]) (by
                have h := rows_keep M.out.row kU (fun _ _ q => q)
                rw [List.length_map] at h
                rw [List.length_map, List.map_map]
                exact h) (by rw [List.length_map, ← HNL.out.1]; omega) hjl
            obtain ⟨T, hT⟩ : ∃ T, T = strB (Lib.join (ns.map shownP) [44]) := ⟨_, rfl⟩
            have hTl : T.size ≤ 100000000000 := by rw [hT, strB_size]; exact hjl
            rw [← hT] at hjn
            have g9 : ¬ 9223372036854775807 < 6 + T.size := by omega
            have HT2 := Lib.hid (show stV (namesP ns) = .string (⟨#[110, 97, 109, 101, 115, 61]⟩ ++ T) by rw [hT]; exact congrArg Value.string (strB_append [110, 97, 109, 101, 115, 61] _).symm)
            obtain ⟨l2, hl2⟩ : ∃ l2, L2.length = l2 := ⟨_, rfl⟩
            have hrow := F5.out.row
            rw [hl2] at hrow
            obtain ⟨a6, c6, rfl, -⟩ := rows_val2 hrow
            have e0 := cell_blk F5.out.cell 0
            simp only [List.getElem?_toArray, List.getElem?_cons_zero] at e0
            have e0d : W5.drew.cell? ⟨b, 0, none⟩ = some (.slice a6 l2 c6) := e0
            have HL2 := Lib.hid hl2
            have hl9 : l2 ≤ 10 := by omega
            clear hT hjl hl2 hrow hk2
            go_upto_region 13 with (fail)
            go_region_law (first
              | (go_simp
                 go_at_call 36
                 with_reducible refine (hjn _ (Keep.drew _ _)).mono ?_
                 rintro e w7 ⟨rfl, q⟩
                 have M7 : Hid (Keep W5 w7 (fun _ => False)) := Lib.hid ((Keep.drew _ _).trans q (fun _ q => q.elim))
                 have e07 := M7.out.cell e0 (fun q => q)
                 have ka : Keep W5 (w7.alloc (.cells #[.string (⟨#[110, 97, 109, 101, 115, 61]⟩ ++ T)] 9)) (fun _ => False) := M7.out.trans (Keep.alloc _ _ _) (fun _ q => q)
                 have e07a := ka.cell e0 (fun q => q)
                 have ra := rows_keep F5.out.row ka (fun _ _ q => q)
                 have za : (w7.alloc (.cells #[.string (⟨#[110, 97, 109, 101, 115, 61]⟩ ++ T)] 9)).heap.size = w7.heap.size + 1 := by simp
                 have RA := Lib.hid (And.intro (show World.ownsRow _ 0 9 1 _ l2 _ from by rw [HL2.out] at ra; exact ra) (And.intro ka (And.intro za M7.out.size)))
                 clear q ka ra za)
              | (refine step_append_row rfl _ _ _ (by rfl) Tryd.underlying73 HI.out.1 HI.out.2.1 HI.out.2.2.1 HI.out.2.2.2 hz1 (by omega) (by rfl) RA.out.1 [.string (⟨#[110, 97, 109, 101, 115, 61]⟩ ++ T)] (by rfl) rfl (.inr ⟨_, rfl, fun j u hj => cells_new w7 [.string (⟨#[110, 97, 109, 101, 115, 61]⟩ ++ T)] 9 j u hj⟩) (fun u hu => by rw [List.mem_singleton.1 hu]; rfl) (by omega) (l2 + 1) rfl (L2.map stV ++ [stV (namesP ns)]) (by rw [HT2.out]) ?_
                 intro a8 c8 w8 h8 k8 f8
                 have K8 : Keep W5 w8 (fun c => (Value.slice a6 l2 c6).ownBlock = some c) := (RA.out.2.1.mono (fun _ q => q.elim)).trans k8 (fun c q => .inl q.symm)
                 have B8 := K8.get F5.out.cell (fun q => (F5.out.new _ q).1 rfl)
                 have d8 : w8.cell? ⟨b, 0, none⟩ = some (.slice a6 l2 c6) := by rw [cell_blk B8]; rfl
                 have fr8 : w8.frozen? ⟨b, 0, none⟩ = false := free_blk B8 _
                 have F8 : ∀ c, (Value.slice a8 (l2 + 1) c8).ownBlock = some c → (Value.slice a6 l2 c6).ownBlock = some c ∨ W5.heap.size ≤ c := fun c q => by
                   rcases f8 c q with z | z
                   · exact .inl z
                   · right; rw [z]; have := RA.out.2.2.1; have := RA.out.2.2.2; omega
                 have N8 := Lib.hid (LineAt.push F5.out K8 HL2.out h8 F8)
                 clear h8 k8 f8 K8 B8 F8))
            all_goals
              go_wp2
              go_meet
              case rel => exact ⟨⟨_, rfl⟩, .slice a8 (l2 + 1) c8, by rw [HL3.out.1, lineNames, if_neg HH.out]; exact N8.out⟩
    case rest =>
      obtain ⟨⟨t25, rfl⟩, v3, hF3⟩ := hcut
      have F3 := Lib.hid hF3
      have c4 := cell_blk (hF3.keep.get D.out.2.1 (fun q => q)) 4
      simp only [List.getElem?_toArray, List.getElem?_cons_zero, List.getElem?_cons_succ] at c4
      clear hF3
      go_wp2_with (first
        | (go_at_call 35
           with_reducible refine (n4 _ _ F3.out).mono ?_
           rintro e w24 ⟨⟨u4, rfl⟩, v4, hF⟩
           have F4 := Lib.hid hF
           have c5 := cell_blk (hF.keep.get D.out.2.1 (fun q => q)) 5
           simp only [List.getElem?_toArray, List.getElem?_cons_zero, List.getElem?_cons_succ] at c5
           clear hF)
        | (go_at_call 35
           with_reducible refine (n5 _ _ F4.out).mono ?_
           rintro e w25 ⟨⟨u5, rfl⟩, v5, hF⟩
           have F5 := Lib.hid hF
           have c6 := cell_blk (hF.keep.get D.out.2.1 (fun q => q)) 6
           simp only [List.getElem?_toArray, List.getElem?_cons_zero, List.getElem?_cons_succ] at c6
           clear hF)
        | (go_at_call 35
           with_reducible refine (n6 _ _ F5.out).mono ?_
           rintro e w26 ⟨⟨u6, rfl⟩, v6, hF⟩
           have F6 := Lib.hid hF
           have c7 := cell_blk (hF.keep.get D.out.2.1 (fun q => q)) 7
           simp only [List.getElem?_toArray, List.getElem?_cons_zero, List.getElem?_cons_succ] at c7
           clear hF)
        | (go_at_call 35
           with_reducible refine (n7 _ _ F6.out).mono ?_
           rintro e w27 ⟨⟨u7, rfl⟩, v7, hF⟩
           have F7 := Lib.hid hF
           have c8 := cell_blk (hF.keep.get D.out.2.1 (fun q => q)) 8
           simp only [List.getElem?_toArray, List.getElem?_cons_zero, List.getElem?_cons_succ] at c8
           clear hF)
        | (go_at_call 35
           with_reducible refine (n8 _ _ F7.out).mono ?_
           rintro e w28 ⟨⟨u8, rfl⟩, v8, hF⟩
           have F8 := Lib.hid hF
           have c9 := cell_blk (hF.keep.get D.out.2.1 (fun q => q)) 9
           simp only [List.getElem?_toArray, List.getElem?_cons_zero, List.getElem?_cons_succ] at c9
           clear hF)
        | (go_at_call 35
           with_reducible refine (n9 _ _ F8.out).mono ?_
           rintro e w29 ⟨⟨u9, rfl⟩, v9, hF⟩
           have F9 := Lib.hid hF
           have c10 := cell_blk (hF.keep.get D.out.2.1 (fun q => q)) 10
           simp only [List.getElem?_toArray, List.getElem?_cons_zero, List.getElem?_cons_succ] at c10
           clear hF)
        | (go_at_call 35
           with_reducible refine (n10 _ _ F9.out).mono ?_
           rintro e w30 ⟨⟨u10, rfl⟩, v10, hF⟩
           have F10 := Lib.hid hF
           have e9 := cell_blk hF.cell 0
           simp only [List.getElem?_toArray, List.getElem?_cons_zero] at e9
           have hjn := join_c (sep := [32]) hF.row HSM.out.2 HSM.out.1
           clear hF)
        | (go_at_call 36
           refine hjn.mono ?_
           rintro e w40 ⟨rfl, hk10⟩
           have K10 := Lib.hid hk10
           clear hk10))
      go_ret
      refine ⟨by rw [HEQ.out]; rfl, (D.out.1.trans F10.out.keep (fun _ q => q.elim)).trans K10.out (fun _ q => q.elim)⟩

end Go.Proofs.YtdbkkfhneafeiaaDoor
