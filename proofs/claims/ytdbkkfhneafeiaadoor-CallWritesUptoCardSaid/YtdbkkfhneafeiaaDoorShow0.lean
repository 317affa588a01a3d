/-
  A result without names is told (call.Show).
-/
import Derived.Test.YtdbkkfhneafeiaaDoorText
namespace Go.Proofs.YtdbkkfhneafeiaaDoor
open Go Go.RowKit Go.Shelf
set_option linter.unusedSectionVars false
set_option linter.unusedSimpArgs false
set_option linter.unusedVariables false
set_option maxRecDepth 100000
attribute [local go_sem] Oper.semAt_some

def showHead (why : Int) : List Bs := if why = 0 then [[111, 107]] else [[101, 114, 114, 111, 114], Lib.itoa why]

theorem showHead_len (why : Int) : (showHead why).length ≤ 2 := by unfold showHead; split <;> simp
theorem showHead_sum (why : Int) (h0 : -9223372036854775808 ≤ why) (h1 : why ≤ 9223372036854775807) : sumL (showHead why) ≤ 105 := by
  have := itoa_len why h0 h1
  unfold showHead sumL
  split <;> simp
  omega

def statL (L : List Bs) (s : List (Bs × Int)) : List Bs := s.foldl (fun L x => lineNum L x.1 x.2 (Lib.itoa x.2)) L

/-- The words of a result that names nothing. -/
def showL (why n : Int) (data : Bs) (s0 s1 s2 s3 s4 s5 s6 : Int) : List Bs :=
  lineNum (lineNum (lineNum (lineNum (lineNum (lineNum (lineNum (lineText (lineNum (showHead why) [110, 61] n (Lib.itoa n)) [100, 97, 116, 97, 61] data) [110, 111, 100, 101, 61] s0 (Lib.itoa s0)) [107, 105, 110, 100, 61] s1 (Lib.itoa s1)) [109, 111, 100, 101, 61] s2 (Lib.itoa s2)) [117, 105, 100, 61] s3 (Lib.itoa s3)) [103, 105, 100, 61] s4 (Lib.itoa s4)) [108, 105, 110, 107, 115, 61] s5 (Lib.itoa s5)) [115, 105, 122, 101, 61] s6 (Lib.itoa s6)

theorem line_two {w U : World} {b : Nat} {v : Value} {L : List Bs} (h : LineAt w b v L U) (x y : Bs) (U1 : World) (k : Keep U U1 (fun _ => False)) :
    LineAt w b (.slice (some ⟨U1.heap.size, 0, none⟩) 2 2) [x, y] ((U1.alloc (.cells #[stV x, stV y] 9)).setCell ⟨b, 0, none⟩ (.slice (some ⟨U1.heap.size, 0, none⟩) 2 2)) := by
  have k1 := Keep.alloc U1 (.cells #[stV x, stV y] 9) (fun _ => False)
  have a1 := heap_alloc_eq U1 (.cells #[stV x, stV y] 9)
  have hb := (k.trans k1 (fun _ q => q.elim)).get h.cell (fun q => q)
  have hlt := lt_of_blk h.cell
  have hs := k.size
  have ho := h.old
  generalize U1.alloc (.cells #[stV x, stV y] 9) = U2 at *
  have ks := Keep.setCell U2 ⟨b, 0, none⟩ (.slice (some ⟨U1.heap.size, 0, none⟩) 2 2)
  refine ⟨((h.keep.trans k (fun _ q => q.elim)).trans k1 (fun _ q => q.elim)).trans ks (fun c q => .inr (by have q' : c = b := q; rw [q']; exact ho)), ho, heap_setCell_eq (off := 0) _ hb, ?_, fun c q => ?_⟩
  · exact ⟨by simp, .inr ⟨U1.heap.size, 2, #[stV x, stV y], rfl, Nat.zero_le _, ks.get a1 (fun q => by have q' : U1.heap.size = b := q; omega), Nat.le_refl _, by unfold maxLen; omega, by simp, by simp⟩⟩
  · have q' : some U1.heap.size = some c := q
    cases q'
    exact ⟨by omega, by omega⟩

set_option maxHeartbeats 4000000 in
theorem show0_c (why n : Int) (data : Bs) (s0 s1 s2 s3 s4 s5 s6 : Int) (a : Option Addr) (cap : Nat) (w : World) (ht : Tabs w) (hd : BSr w (.slice a data.length cap) data)
    (hz : ∀ z ∈ [why, n, s0, s1, s2, s3, s4, s5, s6], -9223372036854775808 ≤ z ∧ z ≤ 9223372036854775807) (hl : data.length ≤ 100000000) :
    Calls Tryd.prog 20 #[.agg #[.int .i64 why, .int .i64 n, .slice a data.length cap, .slice none 0 0, .int .i64 s0, .int .i64 s1, .int .i64 s2, .int .i64 s3, .int .i64 s4, .int .i64 s5, .int .i64 s6]] w fun r w' => r = .returned (.string (strB (Lib.join (showL why n data s0 s1 s2 s3 s4 s5 s6) [32]))) ∧ Keep w w' (fun _ => False) := by
  obtain ⟨W1, hW1⟩ : ∃ W1, W1 = w.alloc (.cells #[.int .i64 why, .int .i64 n, .slice a data.length cap, .slice none 0 0, .int .i64 s0, .int .i64 s1, .int .i64 s2, .int .i64 s3, .int .i64 s4, .int .i64 s5, .int .i64 s6] 48) := ⟨_, rfl⟩
  have k1 := Keep.alloc w (.cells #[.int .i64 why, .int .i64 n, .slice a data.length cap, .slice none 0 0, .int .i64 s0, .int .i64 s1, .int .i64 s2, .int .i64 s3, .int .i64 s4, .int .i64 s5, .int .i64 s6] 48) (fun _ => False)
  have b1 := heap_alloc_eq w (.cells #[.int .i64 why, .int .i64 n, .slice a data.length cap, .slice none 0 0, .int .i64 s0, .int .i64 s1, .int .i64 s2, .int .i64 s3, .int .i64 s4, .int .i64 s5, .int .i64 s6] 48)
  have z1 : (w.alloc (.cells #[.int .i64 why, .int .i64 n, .slice a data.length cap, .slice none 0 0, .int .i64 s0, .int .i64 s1, .int .i64 s2, .int .i64 s3, .int .i64 s4, .int .i64 s5, .int .i64 s6] 48)).heap.size = w.heap.size + 1 := by simp
  rw [← hW1] at k1 b1 z1
  have D := Lib.hid (And.intro k1 (And.intro b1 (And.intro z1 (And.intro (ht.keep k1) (hd.aside k1)))))
  have HZ := Lib.hid hz
  clear k1 b1 z1 ht hd hz
  go_enter Tryd.func20, Tryd.ntmps20
  go_upto_region 1 with (fail)
  rw [← hW1]
  clear hW1
  obtain ⟨W2, hW2⟩ : ∃ W2, W2 = ((W1.alloc (.cells #[.string ⟨#[111, 107]⟩] 9)).alloc (.cells #[.slice (some ⟨W1.heap.size, 0, none⟩) 1 1] 73)) := ⟨_, rfl⟩
  have hL0 : LineAt W1 (W1.heap.size + 1) (.slice (some ⟨W1.heap.size, 0, none⟩) 1 1) [[111, 107]] W2 := by rw [hW2]; exact line_new (w := W1) (U := W1) [111, 107] (Keep.refl _ _)
  go_upto_region 2 with (fail)
  rw [← hW2]
  obtain ⟨b, hb⟩ : ∃ b, b = W1.heap.size + 1 := ⟨_, rfl⟩
  rw [← hb] at hL0 ⊢
  have hbx : w.heap.size < b := by have := D.out.2.2.1; omega
  have e0 := cell_blk hL0.cell 0
  have f0 := free_blk hL0.cell 0
  have d0 := cell_blk (hL0.keep.get D.out.2.1 (fun q => q)) 0
  simp only [List.getElem?_toArray, List.getElem?_cons_zero] at e0 d0
  have E0 := Lib.hid hL0
  have hne : ¬ w.heap.size = b := by omega
  have hne2 : ¬ b = w.heap.size := by omega
  clear hW2 hL0 hb
  go_upto_if 10 with (fail)
  go_cut [] from 7 (fun wc => ∃ v, LineAt W1 b v (showHead why) wc)
  case first =>
    by_cases h0 : why = 0
    · subst h0
      go_wp2
      go_meet
      case rel => exact ⟨_, E0.out⟩
    · have hb0 : (why != 0) = true := by simp [h0]
      have hrng := HZ.out why (by simp)
      have hit : Calls Tryd.prog 38 #[.int .i64 why] W2 fun e w' => e = .returned (.string (strB (Lib.itoa why))) ∧ Keep W2 w' (fun _ => False) := by
        refine (Tryd.strconv_Itoa why hrng.1 hrng.2 W2 (D.out.2.2.2.1.keep E0.out.keep).pow).mono ?_
        rintro e w' ⟨rfl, kk, os, rfl⟩
        exact ⟨rfl, grow_keep _ _ _⟩
      obtain ⟨T, hT⟩ : ∃ T, T = strB (Lib.itoa why) := ⟨_, rfl⟩
      rw [← hT] at hit
      have HT := Lib.hid (And.intro hT h0)
      clear hT hrng
      go_wp2_with (
        go_at_call 38
        with_reducible refine hit.mono ?_
        rintro e w3 ⟨rfl, hk3⟩
        have k3 := hk3.trans (Keep.alloc w3 (.cells #[.string ⟨#[101, 114, 114, 111, 114]⟩, .string T] 9) (fun _ => False)) (fun _ q => q.elim)
        have e3 := k3.cell e0 (fun q => q)
        have f3 := free_blk (k3.get E0.out.cell (fun q => q)) 0
        have K3 := Lib.hid hk3
        clear hk3 k3)
      go_meet
      case rel =>
        have h := line_two E0.out [101, 114, 114, 111, 114] (Lib.itoa why) w3 K3.out
        refine ⟨.slice (some ⟨w3.heap.size, 0, none⟩) 2 2, ?_⟩
        unfold showHead
        rw [if_neg HT.out.2]
        have e : stV (Lib.itoa why) = .string T := by rw [HT.out.1]
        rw [e] at h
        exact h
  case rest =>
    obtain ⟨v0, hL0⟩ := hcut
    have F0 := Lib.hid hL0
    have c1 := cell_blk (hL0.keep.get D.out.2.1 (fun q => q)) 1
    simp only [List.getElem?_toArray, List.getElem?_cons_zero, List.getElem?_cons_succ] at c1
    clear hL0 e0 d0 f0 E0
    have hl0 := showHead_len why
    have hs0 := showHead_sum why (HZ.out why (by simp)).1 (HZ.out why (by simp)).2
    obtain ⟨L0, hL0⟩ : ∃ L0, L0 = showHead why := ⟨_, rfl⟩
    rw [← hL0] at F0 hl0 hs0
    obtain ⟨L1, hL1⟩ : ∃ L1, L1 = lineNum L0 [110, 61] n (Lib.itoa n) := ⟨_, rfl⟩
    have hl1 := lineNum_len L0 [110, 61] n (Lib.itoa n)
    have hs1 := lineNum_sum L0 [110, 61] n (Lib.itoa n)
    have hi1 := itoa_len n (HZ.out n (by simp)).1 (HZ.out n (by simp)).2
    rw [← hL1] at hl1 hs1
    simp only [List.length_cons, List.length_nil] at hs1
    have n1 : ∀ (v : Value) (U : World), LineAt W1 b v L0 U → Calls Tryd.prog 35 #[.pointer (some ⟨b, 0, none⟩), .string ⟨#[110, 61]⟩, .int .i64 n] U fun r w' => (∃ u, r = .returned u) ∧ ∃ v', LineAt W1 b v' L1 w' := fun v U h =>
      (lnum_c [110, 61] n h (by omega) (HZ.out n (by simp)).1 (HZ.out n (by simp)).2 (D.out.2.2.2.1.keep h.keep) (by simp)).mono fun _ _ q => ⟨q.1, q.2.1.choose, by rw [hL1]; exact q.2.1.choose_spec.1⟩
    obtain ⟨L2, hL2⟩ : ∃ L2, L2 = lineText L1 [100, 97, 116, 97, 61] data := ⟨_, rfl⟩
    have hl2 := lineText_len L1 [100, 97, 116, 97, 61] data
    have hs2 := lineText_sum L1 [100, 97, 116, 97, 61] data
    rw [← hL2] at hl2 hs2
    simp only [List.length_cons, List.length_nil] at hs2
    have n2 : ∀ (v : Value) (U : World), LineAt W1 b v L1 U → Calls Tryd.prog 34 #[.pointer (some ⟨b, 0, none⟩), .string ⟨#[100, 97, 116, 97, 61]⟩, .string (strB data)] U fun r w' => (∃ u, r = .returned u) ∧ ∃ v', LineAt W1 b v' L2 w' := fun v U h =>
      (ltext_c [100, 97, 116, 97, 61] data h (by omega) (by omega) (by simp)).mono fun _ _ q => ⟨q.1, q.2.1.choose, by rw [hL2]; exact q.2.1.choose_spec.1⟩
    obtain ⟨L3, hL3⟩ : ∃ L3, L3 = lineNum L2 [110, 111, 100, 101, 61] s0 (Lib.itoa s0) := ⟨_, rfl⟩
    have hl3 := lineNum_len L2 [110, 111, 100, 101, 61] s0 (Lib.itoa s0)
    have hs3 := lineNum_sum L2 [110, 111, 100, 101, 61] s0 (Lib.itoa s0)
    have hi3 := itoa_len s0 (HZ.out s0 (by simp)).1 (HZ.out s0 (by simp)).2
    rw [← hL3] at hl3 hs3
    simp only [List.length_cons, List.length_nil] at hs3
    have n3 : ∀ (v : Value) (U : World), LineAt W1 b v L2 U → Calls Tryd.prog 35 #[.pointer (some ⟨b, 0, none⟩), .string ⟨#[110, 111, 100, 101, 61]⟩, .int .i64 s0] U fun r w' => (∃ u, r = .returned u) ∧ ∃ v', LineAt W1 b v' L3 w' := fun v U h =>
      (lnum_c [110, 111, 100, 101, 61] s0 h (by omega) (HZ.out s0 (by simp)).1 (HZ.out s0 (by simp)).2 (D.out.2.2.2.1.keep h.keep) (by simp)).mono fun _ _ q => ⟨q.1, q.2.1.choose, by rw [hL3]; exact q.2.1.choose_spec.1⟩
    obtain ⟨L4, hL4⟩ : ∃ L4, L4 = lineNum L3 [107, 105, 110, 100, 61] s1 (Lib.itoa s1) := ⟨_, rfl⟩
    have hl4 := lineNum_len L3 [107, 105, 110, 100, 61] s1 (Lib.itoa s1)
    have hs4 := lineNum_sum L3 [107, 105, 110, 100, 61] s1 (Lib.itoa s1)
    have hi4 := itoa_len s1 (HZ.out s1 (by simp)).1 (HZ.out s1 (by simp)).2
    rw [← hL4] at hl4 hs4
    simp only [List.length_cons, List.length_nil] at hs4
    have n4 : ∀ (v : Value) (U : World), LineAt W1 b v L3 U → Calls Tryd.prog 35 #[.pointer (some ⟨b, 0, none⟩), .string ⟨#[107, 105, 110, 100, 61]⟩, .int .i64 s1] U fun r w' => (∃ u, r = .returned u) ∧ ∃ v', LineAt W1 b v' L4 w' := fun v U h =>
      (lnum_c [107, 105, 110, 100, 61] s1 h (by omega) (HZ.out s1 (by simp)).1 (HZ.out s1 (by simp)).2 (D.out.2.2.2.1.keep h.keep) (by simp)).mono fun _ _ q => ⟨q.1, q.2.1.choose, by rw [hL4]; exact q.2.1.choose_spec.1⟩
    obtain ⟨L5, hL5⟩ : ∃ L5, L5 = lineNum L4 [109, 111, 100, 101, 61] s2 (Lib.itoa s2) := ⟨_, rfl⟩
    have hl5 := lineNum_len L4 [109, 111, 100, 101, 61] s2 (Lib.itoa s2)
    have hs5 := lineNum_sum L4 [109, 111, 100, 101, 61] s2 (Lib.itoa s2)
    have hi5 := itoa_len s2 (HZ.out s2 (by simp)).1 (HZ.out s2 (by simp)).2
    rw [← hL5] at hl5 hs5
    simp only [List.length_cons, List.length_nil] at hs5
    have n5 : ∀ (v : Value) (U : World), LineAt W1 b v L4 U → Calls Tryd.prog 35 #[.pointer (some ⟨b, 0, none⟩), .string ⟨#[109, 111, 100, 101, 61]⟩, .int .i64 s2] U fun r w' => (∃ u, r = .returned u) ∧ ∃ v', LineAt W1 b v' L5 w' := fun v U h =>
      (lnum_c [109, 111, 100, 101, 61] s2 h (by omega) (HZ.out s2 (by simp)).1 (HZ.out s2 (by simp)).2 (D.out.2.2.2.1.keep h.keep) (by simp)).mono fun _ _ q => ⟨q.1, q.2.1.choose, by rw [hL5]; exact q.2.1.choose_spec.1⟩
    obtain ⟨L6, hL6⟩ : ∃ L6, L6 = lineNum L5 [117, 105, 100, 61] s3 (Lib.itoa s3) := ⟨_, rfl⟩
    have hl6 := lineNum_len L5 [117, 105, 100, 61] s3 (Lib.itoa s3)
    have hs6 := lineNum_sum L5 [117, 105, 100, 61] s3 (Lib.itoa s3)
    have hi6 := itoa_len s3 (HZ.out s3 (by simp)).1 (HZ.out s3 (by simp)).2
    rw [← hL6] at hl6 hs6
    simp only [List.length_cons, List.length_nil] at hs6
    have n6 : ∀ (v : Value) (U : World), LineAt W1 b v L5 U → Calls Tryd.prog 35 #[.pointer (some ⟨b, 0, none⟩), .string ⟨#[117, 105, 100, 61]⟩, .int .i64 s3] U fun r w' => (∃ u, r = .returned u) ∧ ∃ v', LineAt W1 b v' L6 w' := fun v U h =>
      (lnum_c [117, 105, 100, 61] s3 h (by omega) (HZ.out s3 (by simp)).1 (HZ.out s3 (by simp)).2 (D.out.2.2.2.1.keep h.keep) (by simp)).mono fun _ _ q => ⟨q.1, q.2.1.choose, by rw [hL6]; exact q.2.1.choose_spec.1⟩
    obtain ⟨L7, hL7⟩ : ∃ L7, L7 = lineNum L6 [103, 105, 100, 61] s4 (Lib.itoa s4) := ⟨_, rfl⟩
    have hl7 := lineNum_len L6 [103, 105, 100, 61] s4 (Lib.itoa s4)
    have hs7 := lineNum_sum L6 [103, 105, 100, 61] s4 (Lib.itoa s4)
    have hi7 := itoa_len s4 (HZ.out s4 (by simp)).1 (HZ.out s4 (by simp)).2
    rw [← hL7] at hl7 hs7
    simp only [List.length_cons, List.length_nil] at hs7
    have n7 : ∀ (v : Value) (U : World), LineAt W1 b v L6 U → Calls Tryd.prog 35 #[.pointer (some ⟨b, 0, none⟩), .string ⟨#[103, 105, 100, 61]⟩, .int .i64 s4] U fun r w' => (∃ u, r = .returned u) ∧ ∃ v', LineAt W1 b v' L7 w' := fun v U h =>
      (lnum_c [103, 105, 100, 61] s4 h (by omega) (HZ.out s4 (by simp)).1 (HZ.out s4 (by simp)).2 (D.out.2.2.2.1.keep h.keep) (by simp)).mono fun _ _ q => ⟨q.1, q.2.1.choose, by rw [hL7]; exact q.2.1.choose_spec.1⟩
    obtain ⟨L8, hL8⟩ : ∃ L8, L8 = lineNum L7 [108, 105, 110, 107, 115, 61] s5 (Lib.itoa s5) := ⟨_, rfl⟩
    have hl8 := lineNum_len L7 [108, 105, 110, 107, 115, 61] s5 (Lib.itoa s5)
    have hs8 := lineNum_sum L7 [108, 105, 110, 107, 115, 61] s5 (Lib.itoa s5)
    have hi8 := itoa_len s5 (HZ.out s5 (by simp)).1 (HZ.out s5 (by simp)).2
    rw [← hL8] at hl8 hs8
    simp only [List.length_cons, List.length_nil] at hs8
    have n8 : ∀ (v : Value) (U : World), LineAt W1 b v L7 U → Calls Tryd.prog 35 #[.pointer (some ⟨b, 0, none⟩), .string ⟨#[108, 105, 110, 107, 115, 61]⟩, .int .i64 s5] U fun r w' => (∃ u, r = .returned u) ∧ ∃ v', LineAt W1 b v' L8 w' := fun v U h =>
      (lnum_c [108, 105, 110, 107, 115, 61] s5 h (by omega) (HZ.out s5 (by simp)).1 (HZ.out s5 (by simp)).2 (D.out.2.2.2.1.keep h.keep) (by simp)).mono fun _ _ q => ⟨q.1, q.2.1.choose, by rw [hL8]; exact q.2.1.choose_spec.1⟩
    obtain ⟨L9, hL9⟩ : ∃ L9, L9 = lineNum L8 [115, 105, 122, 101, 61] s6 (Lib.itoa s6) := ⟨_, rfl⟩
    have hl9 := lineNum_len L8 [115, 105, 122, 101, 61] s6 (Lib.itoa s6)
    have hs9 := lineNum_sum L8 [115, 105, 122, 101, 61] s6 (Lib.itoa s6)
    have hi9 := itoa_len s6 (HZ.out s6 (by simp)).1 (HZ.out s6 (by simp)).2
    rw [← hL9] at hl9 hs9
    simp only [List.length_cons, List.length_nil] at hs9
    have n9 : ∀ (v : Value) (U : World), LineAt W1 b v L8 U → Calls Tryd.prog 35 #[.pointer (some ⟨b, 0, none⟩), .string ⟨#[115, 105, 122, 101, 61]⟩, .int .i64 s6] U fun r w' => (∃ u, r = .returned u) ∧ ∃ v', LineAt W1 b v' L9 w' := fun v U h =>
      (lnum_c [115, 105, 122, 101, 61] s6 h (by omega) (HZ.out s6 (by simp)).1 (HZ.out s6 (by simp)).2 (D.out.2.2.2.1.keep h.keep) (by simp)).mono fun _ _ q => ⟨q.1, q.2.1.choose, by rw [hL9]; exact q.2.1.choose_spec.1⟩
    have HSM := Lib.hid (show (Lib.join L9 [32]).length ≤ 100000000000 ∧ L9.length ≤ 1000000000 by
      have s6 := join_small (L := L9) (sep := [32]) rfl
      exact ⟨by omega, by omega⟩)
    have HEQ := Lib.hid (show L9 = showL why n data s0 s1 s2 s3 s4 s5 s6 by rw [hL9, hL8, hL7, hL6, hL5, hL4, hL3, hL2, hL1, hL0]; rfl)
    have HS8 := Lib.hid (And.intro hl0 hs0)
    clear hl0 hs0 hL0 hl1 hs1 hi1 hL1 hl2 hs2 hL2 hl3 hs3 hi3 hL3 hl4 hs4 hi4 hL4 hl5 hs5 hi5 hL5 hl6 hs6 hi6 hL6 hl7 hs7 hi7 hL7 hl8 hs8 hi8 hL8 hl9 hs9 hi9 hL9
    go_wp2_with (first
      | (go_at_call 35
         with_reducible refine (n1 _ _ F0.out).mono ?_
         rintro e w11 ⟨⟨u1, rfl⟩, v1, hF⟩
         have F1 := Lib.hid hF
         have c2 := cell_blk (hF.keep.get D.out.2.1 (fun q => q)) 2
         simp only [List.getElem?_toArray, List.getElem?_cons_zero, List.getElem?_cons_succ] at c2
         have hcv := str_ofr (P := Tryd.prog) 22 9 Tryd.underlying22 Tryd.underlying5 Tryd.underlying9 (D.out.2.2.2.2.aside hF.keep)
         clear hF)
      | (go_at_call 34
         with_reducible refine (n2 _ _ F1.out).mono ?_
         rintro e w12 ⟨⟨u2, rfl⟩, v2, hF⟩
         have F2 := Lib.hid hF
         have c3 := cell_blk (hF.keep.get D.out.2.1 (fun q => q)) 4
         simp only [List.getElem?_toArray, List.getElem?_cons_zero, List.getElem?_cons_succ] at c3
         have cn := cell_blk (hF.keep.get D.out.2.1 (fun q => q)) 3
         simp only [List.getElem?_toArray, List.getElem?_cons_zero, List.getElem?_cons_succ] at cn
         clear hF)
      | (go_at_call 35
         with_reducible refine (n3 _ _ F2.out).mono ?_
         rintro e w13 ⟨⟨u3, rfl⟩, v3, hF⟩
         have F3 := Lib.hid hF
         have c4 := cell_blk (hF.keep.get D.out.2.1 (fun q => q)) 5
         simp only [List.getElem?_toArray, List.getElem?_cons_zero, List.getElem?_cons_succ] at c4
         clear hF)
      | (go_at_call 35
         with_reducible refine (n4 _ _ F3.out).mono ?_
         rintro e w14 ⟨⟨u4, rfl⟩, v4, hF⟩
         have F4 := Lib.hid hF
         have c5 := cell_blk (hF.keep.get D.out.2.1 (fun q => q)) 6
         simp only [List.getElem?_toArray, List.getElem?_cons_zero, List.getElem?_cons_succ] at c5
         clear hF)
      | (go_at_call 35
         with_reducible refine (n5 _ _ F4.out).mono ?_
         rintro e w15 ⟨⟨u5, rfl⟩, v5, hF⟩
         have F5 := Lib.hid hF
         have c6 := cell_blk (hF.keep.get D.out.2.1 (fun q => q)) 7
         simp only [List.getElem?_toArray, List.getElem?_cons_zero, List.getElem?_cons_succ] at c6
         clear hF)
      | (go_at_call 35
         with_reducible refine (n6 _ _ F5.out).mono ?_
         rintro e w16 ⟨⟨u6, rfl⟩, v6, hF⟩
         have F6 := Lib.hid hF
         have c7 := cell_blk (hF.keep.get D.out.2.1 (fun q => q)) 8
         simp only [List.getElem?_toArray, List.getElem?_cons_zero, List.getElem?_cons_succ] at c7
         clear hF)
      | (go_at_call 35
         with_reducible refine (n7 _ _ F6.out).mono ?_
         rintro e w17 ⟨⟨u7, rfl⟩, v7, hF⟩
         have F7 := Lib.hid hF
         have c8 := cell_blk (hF.keep.get D.out.2.1 (fun q => q)) 9
         simp only [List.getElem?_toArray, List.getElem?_cons_zero, List.getElem?_cons_succ] at c8
         clear hF)
      | (go_at_call 35
         with_reducible refine (n8 _ _ F7.out).mono ?_
         rintro e w18 ⟨⟨u8, rfl⟩, v8, hF⟩
         have F8 := Lib.hid hF
         have c9 := cell_blk (hF.keep.get D.out.2.1 (fun q => q)) 10
         simp only [List.getElem?_toArray, List.getElem?_cons_zero, List.getElem?_cons_succ] at c9
         clear hF)
      | (go_at_call 35
         with_reducible refine (n9 _ _ F8.out).mono ?_
         rintro e w19 ⟨⟨u9, rfl⟩, v9, hF⟩
         have F9 := Lib.hid hF
         have e9 := cell_blk hF.cell 0
         simp only [List.getElem?_toArray, List.getElem?_cons_zero] at e9
         have hjn := join_c (sep := [32]) hF.row HSM.out.2 HSM.out.1
         clear hF)
      | (go_at_call 36
         refine hjn.mono ?_
         rintro e w10 ⟨rfl, hk10⟩
         have K10 := Lib.hid hk10
         clear hk10))
    go_ret
    refine ⟨by rw [HEQ.out]; rfl, (D.out.1.trans F9.out.keep (fun _ q => q.elim)).trans K10.out (fun _ q => q.elim)⟩

end Go.Proofs.YtdbkkfhneafeiaaDoor
