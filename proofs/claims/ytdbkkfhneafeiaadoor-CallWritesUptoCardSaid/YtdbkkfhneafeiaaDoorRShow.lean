/-
  The document's Show of a result.
-/
import Derived.Test.YtdbkkfhneafeiaaDoorRText1
import Derived.Test.YtdbkkfhneafeiaaDoorShow1
namespace Go.Proofs.YtdbkkfhneafeiaaDoor
open Go Go.RowKit Go.Shelf
set_option linter.unusedSectionVars false
set_option linter.unusedSimpArgs false
set_option linter.unusedVariables false
set_option maxRecDepth 100000
attribute [local go_sem] Oper.semAt_some

theorem join_snocS {L : List Bs} (x sep : Bs) (h : L ≠ []) : Lib.join (L ++ [x]) sep = Lib.join L sep ++ (sep ++ x) := by
  cases L with
  | nil => exact absurd rfl h
  | cons y r =>
    rw [List.cons_append, Lib.join_cons, Lib.join_cons]
    unfold Lib.joinTail
    simp

def showR0 (why : Int) : Bs := if why = 0 then [111, 107] else [101, 114, 114, 111, 114, 32] ++ Lib.itoa why
def namesR (ns : List Bs) : Bs := if ns = [] then [] else [32] ++ namesP ns
def showT1 (why n : Int) : Bs := showR0 why ++ numR [110] n
def showT2 (why n : Int) (data : Bs) : Bs := showT1 why n ++ textR [100, 97, 116, 97, 61] data
def showT3 (why n : Int) (data : Bs) (ns : List Bs) : Bs := showT2 why n data ++ namesR ns
def showT4 (why n : Int) (data : Bs) (ns : List Bs) (s0 s1 s2 s3 s4 s5 s6 : Int) : Bs := showT3 why n data ns ++ (numR [110, 111, 100, 101] s0 ++ (numR [107, 105, 110, 100] s1 ++ (numR [109, 111, 100, 101] s2 ++ (numR [117, 105, 100] s3 ++ (numR [103, 105, 100] s4 ++ (numR [108, 105, 110, 107, 115] s5 ++ (numR [115, 105, 122, 101] s6)))))))

theorem showHead_join (why : Int) : Lib.join (showHead why) [32] = showR0 why := by
  unfold showHead showR0
  split
  · rw [Lib.join_one]
  · show Lib.join ([[101, 114, 114, 111, 114]] ++ [Lib.itoa why]) [32] = _
    rw [join_snocS _ _ (by simp), Lib.join_one]
    simp

theorem showHead_ne (why : Int) : showHead why ≠ [] := by unfold showHead; split <;> simp
theorem lineNames_ne {L : List Bs} (h : L ≠ []) (ns : List Bs) : lineNames L ns ≠ [] := by unfold lineNames; split <;> simp [h]
theorem join_names {L : List Bs} (h : L ≠ []) (ns : List Bs) : Lib.join (lineNames L ns) [32] = Lib.join L [32] ++ namesR ns := by
  unfold lineNames namesR
  split
  · simp
  · rw [join_snocS _ _ h]

theorem showT_eq (why n : Int) (data : Bs) (ns : List Bs) (s0 s1 s2 s3 s4 s5 s6 : Int) : Lib.join (show1L why n data ns s0 s1 s2 s3 s4 s5 s6) [32] = showT4 why n data ns s0 s1 s2 s3 s4 s5 s6 := by
  have n0 := showHead_ne why
  have n1 := lineNum_ne n0 [110, 61] n (Lib.itoa n)
  have n2 := lineText_ne n1 [100, 97, 116, 97, 61] data
  have m0 := lineNames_ne n2 ns
  have m1 := lineNum_ne m0 [110, 111, 100, 101, 61] s0 (Lib.itoa s0)
  have m2 := lineNum_ne m1 [107, 105, 110, 100, 61] s1 (Lib.itoa s1)
  have m3 := lineNum_ne m2 [109, 111, 100, 101, 61] s2 (Lib.itoa s2)
  have m4 := lineNum_ne m3 [117, 105, 100, 61] s3 (Lib.itoa s3)
  have m5 := lineNum_ne m4 [103, 105, 100, 61] s4 (Lib.itoa s4)
  have m6 := lineNum_ne m5 [108, 105, 110, 107, 115, 61] s5 (Lib.itoa s5)
  have m7 := lineNum_ne m6 [115, 105, 122, 101, 61] s6 (Lib.itoa s6)
  unfold show1L showT4 showT3 showT2 showT1
  rw [join_num m6 [115, 105, 122, 101] s6 (name := [115, 105, 122, 101, 61]) rfl, join_num m5 [108, 105, 110, 107, 115] s5 (name := [108, 105, 110, 107, 115, 61]) rfl, join_num m4 [103, 105, 100] s4 (name := [103, 105, 100, 61]) rfl, join_num m3 [117, 105, 100] s3 (name := [117, 105, 100, 61]) rfl, join_num m2 [109, 111, 100, 101] s2 (name := [109, 111, 100, 101, 61]) rfl, join_num m1 [107, 105, 110, 100] s1 (name := [107, 105, 110, 100, 61]) rfl, join_num m0 [110, 111, 100, 101] s0 (name := [110, 111, 100, 101, 61]) rfl, join_names n2, join_text n1, join_num n0 [110] n (name := [110, 61]) rfl, showHead_join]
  simp only [List.append_assoc]

theorem showR0_len (why : Int) (h1 : -9223372036854775808 ≤ why) (h2 : why ≤ 9223372036854775807) : (showR0 why).length ≤ 200 := by
  unfold showR0
  have := itoa_len why h1 h2
  split <;> simp
  omega

theorem joinK_len (ns : List Bs) (k : Nat) : (Lib.join ((ns.take k).map shownP) [44]).length ≤ 3 * sumL ns + ns.length := by
  have h := names_len (ns.take k)
  have h2 : sumL (ns.take k) ≤ sumL ns := by
    have e : sumL ns = sumL (ns.take k) + sumL (ns.drop k) := by
      conv => lhs; rw [← List.take_append_drop k ns]
      unfold sumL
      rw [List.map_append, List.sum_append]
    omega
  have h3 : (ns.take k).length ≤ ns.length := by rw [List.length_take]; omega
  omega

theorem joinK_step {ns : List Bs} {k : Nat} {x : Bs} (hx : ns[k]? = some x) (hk : 0 < k) : Lib.join ((ns.take (k + 1)).map shownP) [44] = Lib.join ((ns.take k).map shownP) [44] ++ ([44] ++ shownP x) := by
  obtain ⟨h1, h2⟩ := List.getElem?_eq_some_iff.1 hx
  rw [List.take_succ_eq_append_getElem h1, h2, List.map_append]
  refine join_snocS _ _ ?_
  intro h
  have := congrArg List.length h
  rw [List.length_map, List.length_take, List.length_nil] at this
  omega

theorem joinK_one {ns : List Bs} {x : Bs} (hx : ns[0]? = some x) : Lib.join ((ns.take 1).map shownP) [44] = shownP x := by
  cases ns with
  | nil => simp at hx
  | cons y r =>
    simp at hx
    subst hx
    show Lib.join [shownP y] [44] = _
    rw [Lib.join_one]

set_option maxHeartbeats 4000000 in
theorem rshow_c (why n : Int) (data : Bs) (ns : List Bs) (s0 s1 s2 s3 s4 s5 s6 : Int) (a an : Option Addr) (cap capn : Nat) (w : World) (hd : BSr w (.slice a data.length cap) data)
    (hz : ∀ z ∈ [why, n, s0, s1, s2, s3, s4, s5, s6], -9223372036854775808 ≤ z ∧ z ≤ 9223372036854775807) (hl : data.length ≤ 100000000) (hn : ListIn w (.slice an ns.length capn) (ns.map stV)) (hnl : ns.length ≤ 100000000 ∧ sumL ns ≤ 100000000) :
    Calls Tryd.prog 23 #[.agg #[.int .i64 why, .int .i64 n, .slice a data.length cap, .slice an ns.length capn, .int .i64 s0, .int .i64 s1, .int .i64 s2, .int .i64 s3, .int .i64 s4, .int .i64 s5, .int .i64 s6]] w fun r w' => r = .returned (.string (strB (Lib.join (show1L why n data ns s0 s1 s2 s3 s4 s5 s6) [32]))) ∧ Keep w w' (fun _ => False) := by
  rw [showT_eq]
  obtain ⟨nl, hnl2⟩ : ∃ nl, nl = ns.length := ⟨_, rfl⟩
  rw [← hnl2] at hn hnl ⊢
  obtain ⟨hnl1, hnl3⟩ := hnl
  obtain ⟨W1, hW1⟩ : ∃ W1, W1 = w.alloc (.cells #[.int .i64 why, .int .i64 n, .slice a data.length cap, .slice an nl capn, .int .i64 s0, .int .i64 s1, .int .i64 s2, .int .i64 s3, .int .i64 s4, .int .i64 s5, .int .i64 s6] 48) := ⟨_, rfl⟩
  have k1 := Keep.alloc w (.cells #[.int .i64 why, .int .i64 n, .slice a data.length cap, .slice an nl capn, .int .i64 s0, .int .i64 s1, .int .i64 s2, .int .i64 s3, .int .i64 s4, .int .i64 s5, .int .i64 s6] 48) (fun _ => False)
  have b1 := heap_alloc_eq w (.cells #[.int .i64 why, .int .i64 n, .slice a data.length cap, .slice an nl capn, .int .i64 s0, .int .i64 s1, .int .i64 s2, .int .i64 s3, .int .i64 s4, .int .i64 s5, .int .i64 s6] 48)
  rw [← hW1] at k1 b1
  have BOX := Lib.hid (show ∀ U, Keep W1 U (fun _ => False) → U.heap[w.heap.size]? = some (.cells #[.int .i64 why, .int .i64 n, .slice a data.length cap, .slice an nl capn, .int .i64 s0, .int .i64 s1, .int .i64 s2, .int .i64 s3, .int .i64 s4, .int .i64 s5, .int .i64 s6] 48 (0, 0)) from fun U k => k.get b1 (fun q => q))
  have D := Lib.hid (And.intro k1 (And.intro (hd.aside k1) (hn.aside k1)))
  have HZ := Lib.hid hz
  have HNL := Lib.hid (And.intro hnl2 hnl3)
  clear k1 b1 hd hz hn hnl2 hnl3
  go_enter Tryd.func23, Tryd.ntmps23
  go_upto_region 1 with (fail)
  rw [← hW1]
  clear hW1
  have c0 := cell_blk (BOX.out W1 (Keep.refl _ _)) 0
  simp only [List.getElem?_toArray, List.getElem?_cons_zero, List.getElem?_cons_succ] at c0
  go_upto_if 8 with (fail)
  go_cut [3] from 6 (fun s wc => s = .string (strB (showR0 why)) ∧ W1 = wc)
  case first =>
    by_cases h0 : why = 0
    · subst h0
      go_wp2
      go_meet
      case rel => exact ⟨rfl, rfl⟩
    · have hb0 : (why != 0) = true := by simp [h0]
      have hrng := HZ.out why (by simp)
      have hit := fun U => rdigits_c why hrng.1 hrng.2 U
      have hil := itoa_len why hrng.1 hrng.2
      obtain ⟨T, hT⟩ : ∃ T, T = strB (Lib.itoa why) := ⟨_, rfl⟩
      have hTs : T.size ≤ 100 := by rw [hT, strB_size]; exact hil
      rw [← hT] at hit
      have HT := Lib.hid (show strB (showR0 why) = ⟨#[101, 114, 114, 111, 114, 32]⟩ ++ T by unfold showR0; rw [if_neg h0, hT]; exact (strB_append _ _).symm)
      have g5 : ¬ 9223372036854775807 < 6 + T.size := by omega
      clear hT hrng hil h0
      go_wp2_with (
        go_at_call 43
        with_reducible refine (hit _).mono ?_
        rintro e w3 ⟨rfl, rfl⟩)
      go_meet
      case rel => exact ⟨by rw [HT.out], rfl⟩
  case rest =>
    obtain ⟨rfl, rfl⟩ := hcut
    clear c0
    obtain ⟨T1, hT1⟩ : ∃ T, T = strB (showR0 why) := ⟨_, rfl⟩
    rw [← hT1]
    have hTs1 : T1.size ≤ 200 := by rw [hT1, strB_size]; exact showR0_len why (HZ.out why (by simp)).1 (HZ.out why (by simp)).2
    have HT1 := Lib.hid hT1
    clear hT1
    have c1 := cell_blk (BOX.out W1 (Keep.refl _ _)) 1
    simp only [List.getElem?_toArray, List.getElem?_cons_zero, List.getElem?_cons_succ] at c1
    obtain ⟨N1, hN1⟩ : ∃ N, N = strB (numR [110] n) := ⟨_, rfl⟩
    have hNs1 : N1.size ≤ 2000 := by rw [hN1, strB_size]; exact numR_len (by simp) (HZ.out n (by simp)).1 (HZ.out n (by simp)).2
    have r1 : ∀ U, Calls Tryd.prog 42 #[.string ⟨#[110]⟩, .int .i64 n] U fun e w' => e = .returned (.string N1) ∧ U = w' := fun U => by
      rw [hN1]
      exact (rnumber_c [110] (by simp) n (HZ.out n (by simp)).1 (HZ.out n (by simp)).2 U).mono fun _ _ q => ⟨q.1, q.2.symm⟩
    have HT2 := Lib.hid (show strB (showT1 why n) = T1 ++ N1 by unfold showT1; rw [← strB_append, hN1, HT1.out])
    have g1 : ¬ 9223372036854775807 < T1.size + N1.size := by omega
    clear hN1
    go_upto_region 5 with (
      go_at_call 42
      with_reducible refine (r1 _).mono ?_
      rintro e w3 ⟨rfl, rfl⟩)
    obtain ⟨T2, hT2⟩ : ∃ T, T = strB (showT1 why n) := ⟨_, rfl⟩
    rw [← HT2.out, ← hT2]
    rw [← hT2] at HT2
    have hTs2 : T2.size ≤ 3000 := by rw [HT2.out, ByteArray.size_append]; omega
    have HT2' := Lib.hid hT2
    clear hT2 HT2 HT1 g1 r1 hNs1 hTs1 c1
    have c2 := cell_blk (BOX.out W1 (Keep.refl _ _)) 2
    simp only [List.getElem?_toArray, List.getElem?_cons_zero, List.getElem?_cons_succ] at c2
    go_upto_if 21 with (fail)
    go_cut [3] from 6 (fun s wc => s = .string (strB (showT2 why n data)) ∧ Keep W1 wc (fun _ => False))
    case first =>
      by_cases h0 : 0 < data.length
      · obtain ⟨Q, hQ⟩ : ∃ Q, Q = strB (shownP data) := ⟨_, rfl⟩
        have hQs : Q.size ≤ 300000000 := by rw [hQ, strB_size]; have := shownP_len data; omega
        have hp : ∀ U, Calls Tryd.prog 41 #[.string (strB data)] U fun e w' => e = .returned (.string Q) ∧ Keep U w' (fun _ => False) := fun U => by
          have h := rpath_c data U (by omega)
          rw [← hQ] at h
          exact h
        have hcv := str_ofr (P := Tryd.prog) 22 9 Tryd.underlying22 Tryd.underlying5 Tryd.underlying9 D.out.2.1
        have HN := Lib.hid (show strB (showT2 why n data) = T2 ++ ⟨#[32, 100, 97, 116, 97, 61]⟩ ++ Q by
          unfold showT2 textR
          rw [if_neg (by intro e; rw [e] at h0; simp at h0), HT2'.out, hQ, show (⟨#[32, 100, 97, 116, 97, 61]⟩ : ByteArray) = strB [32, 100, 97, 116, 97, 61] from rfl, strB_append, strB_append]
          simp)
        have g1 : ¬ 9223372036854775807 < T2.size + 6 := by omega
        have g2 : ¬ 9223372036854775807 < T2.size + 6 + Q.size := by omega
        clear hQ
        go_wp2_with (
          go_at_call 41
          refine (hp _).mono ?_
          rintro e w7 ⟨rfl, hk7⟩
          have K7 := Lib.hid hk7
          clear hk7)
        go_meet
        case rel => exact ⟨by rw [HN.out], K7.out⟩
      · have HN := Lib.hid (show textR [100, 97, 116, 97, 61] data = [] by unfold textR; rw [if_pos (List.length_eq_zero_iff.1 (by omega))])
        go_wp2
        go_meet
        case rel => exact ⟨by unfold showT2; rw [HN.out, List.append_nil, ← HT2'.out], Keep.refl _ _⟩
    case rest =>
      obtain ⟨rfl, hk1⟩ := hcut
      clear c2
      have hls : (showT2 why n data).length ≤ 400000000 := by
        unfold showT2
        have h1 := textR_len [100, 97, 116, 97, 61] data
        have h2 : (showT1 why n).length = T2.size := by rw [HT2'.out]; rfl
        rw [List.length_append]
        simp at h1
        omega
      clear HT2' hTs2
      obtain ⟨T3, hT3⟩ : ∃ T, T = strB (showT2 why n data) := ⟨_, rfl⟩
      rw [← hT3]
      have hTs3 : T3.size ≤ 400000000 := by rw [hT3, strB_size]; exact hls
      have HT3 := Lib.hid hT3
      clear hT3 hls
      have c3 := cell_blk (BOX.out wc hk1) 3
      simp only [List.getElem?_toArray, List.getElem?_cons_zero, List.getElem?_cons_succ] at c3
      have K1 := Lib.hid hk1
      clear hk1
      obtain ⟨U0, hU0⟩ : ∃ U0, U0 = wc := ⟨_, rfl⟩
      subst hU0
      go_upto_if 32 with (fail)
      go_cut [3] from 6 (fun s wd => s = .string (strB (showT3 why n data ns)) ∧ Keep W1 wd (fun _ => False))
      case first =>
        by_cases h0 : 0 < nl
        · have hne : ns ≠ [] := by intro e; have := HNL.out.1; rw [e] at this; simp at this; omega
          obtain ⟨bn, off, rfl, hbn, hcell⟩ := D.out.2.2.some (by rw [List.length_map, ← HNL.out.1]; exact h0)
          have HCELL := Lib.hid hcell
          obtain ⟨T4, hT4⟩ : ∃ T, T = strB (showT2 why n data ++ [32, 110, 97, 109, 101, 115, 61]) := ⟨_, rfl⟩
          have HT4 := Lib.hid (show T3 ++ ⟨#[32, 110, 97, 109, 101, 115, 61]⟩ = T4 by rw [hT4, HT3.out, ← strB_append]; rfl)
          have hTs4 : T4.size ≤ 400000007 := by rw [← HT4.out, ByteArray.size_append]; exact Nat.add_le_add hTs3 (Nat.le_refl 7)
          have HT4' := Lib.hid hT4
          have g1 : ¬ 9223372036854775807 < T3.size + 7 := by omega
          have HNE := Lib.hid hne
          have h0b : decide (0 < nl) = true := decide_eq_true h0
          rw [h0b]
          clear hcell hT4 hne
          go_upto_region 9 with (fail)
          rw [HT4.out]
          clear g1 HT4
          go_wp2
          go_loopg [3, 4] nl (fun g u3 u4 wr => ∃ k : Nat, u4 = .int .i64 k ∧ k + g = nl ∧ u3 = .string (T4 ++ strB (Lib.join ((ns.take k).map shownP) [44])) ∧ Keep W1 wr (fun _ => False))
          case atStart => exact ⟨0, rfl, by omega, by rw [show ((ns.take 0).map shownP) = [] from rfl, show Lib.join ([] : List Bs) [44] = [] from rfl]; show _ = Value.string (T4 ++ ByteArray.empty); rw [ByteArray.append_empty], K1.out⟩
          case round =>
            obtain ⟨k, rfl, hk, rfl, hkp⟩ := hrel
            have r3 := cell_blk (BOX.out wr hkp) 3
            simp only [List.getElem?_toArray, List.getElem?_cons_zero, List.getElem?_cons_succ] at r3
            obtain ⟨J, hJ⟩ : ∃ J, J = strB (Lib.join ((ns.take k).map shownP) [44]) := ⟨_, rfl⟩
            have hJs : J.size ≤ 400000000 := by rw [hJ, strB_size]; have := joinK_len ns k; have := HNL.out; omega
            rw [← hJ]
            have HJ := Lib.hid hJ
            clear hJ
            by_cases hlt : k < nl
            · have hlt1 : k < ns.length := by rw [← HNL.out.1]; exact hlt
              obtain ⟨x, hx⟩ : ∃ x, ns[k]? = some x := ⟨_, List.getElem?_eq_getElem hlt1⟩
              have rx := hkp.cell (HCELL.out k (stV x) (mapGet (f := stV) hx)) (fun q => q)
              have hxs : x.length ≤ 100000000 := by have := mem_sumL (List.mem_of_getElem? hx); have := HNL.out.2; omega
              obtain ⟨Q, hQ⟩ : ∃ Q, Q = strB (shownP x) := ⟨_, rfl⟩
              have hQs : Q.size ≤ 300000000 := by rw [hQ, strB_size]; have := shownP_len x; omega
              have hp : ∀ U, Calls Tryd.prog 41 #[.string (strB x)] U fun e w' => e = .returned (.string Q) ∧ Keep U w' (fun _ => False) := fun U => by
                have h := rpath_c x U (by omega)
                rw [← hQ] at h
                exact h
              unfold stV at rx
              have KP := Lib.hid hkp
              clear hkp hlt1 hxs
              by_cases hk0 : k = 0
              · have HN := Lib.hid (show T4 ++ strB (Lib.join ((ns.take (k + 1)).map shownP) [44]) = T4 ++ J ++ Q by
                  subst hk0
                  rw [joinK_one hx, ← hQ, HJ.out]
                  show _ = T4 ++ strB [] ++ Q
                  rw [show T4 ++ strB [] = T4 from ByteArray.append_empty])
                have z0 : ¬ (0 : Int) < (k : Int) := by omega
                have z1 : ¬ 0 < k := by omega
                have g1 : ¬ 9223372036854775807 < T4.size + J.size + Q.size := by omega
                have g2 : ¬ 9223372036854775807 < T4.size + J.size := by omega
                clear hQ hx hk0
                go_wp2_with (
                  go_at_call 41
                  refine (hp _).mono ?_
                  rintro e w7 ⟨rfl, hk7⟩
                  have K7 := Lib.hid (KP.out.trans hk7 (fun _ q => q.elim))
                  clear hk7)
                go_roundg (nl - (k + 1))
                case measure => omega
                case rel => exact ⟨k + 1, by go_num, by omega, by rw [HN.out], K7.out⟩
              · have HN := Lib.hid (show T4 ++ strB (Lib.join ((ns.take (k + 1)).map shownP) [44]) = T4 ++ J ++ ⟨#[44]⟩ ++ Q by
                  rw [joinK_step hx (by omega), hQ, HJ.out, ← strB_append, ← strB_append, ← ByteArray.append_assoc, ← ByteArray.append_assoc]
                  rfl)
                have z0 : (0 : Int) < (k : Int) := by omega
                have z1 : 0 < k := by omega
                have g1 : ¬ 9223372036854775807 < T4.size + J.size + 1 + Q.size := by omega
                have g2 : ¬ 9223372036854775807 < T4.size + J.size + 1 := by omega
                clear hQ hx hk0
                go_wp2_with (
                  go_at_call 41
                  refine (hp _).mono ?_
                  rintro e w7 ⟨rfl, hk7⟩
                  have K7 := Lib.hid (KP.out.trans hk7 (fun _ q => q.elim))
                  clear hk7)
                go_roundg (nl - (k + 1))
                case measure => omega
                case rel => exact ⟨k + 1, by go_num, by omega, by rw [HN.out], K7.out⟩
            · have HN := Lib.hid (show strB (showT3 why n data ns) = T4 ++ J by
                have e : ns.take k = ns := List.take_of_length_le (by rw [← HNL.out.1]; omega)
                rw [HJ.out, e, HT4'.out, strB_append]
                unfold showT3 namesR namesP
                rw [if_neg HNE.out]
                simp)
              have KP := Lib.hid hkp
              clear hkp
              go_wp2
              go_meet
              case rel => exact ⟨by rw [HN.out], KP.out⟩
        · have HN := Lib.hid (show namesR ns = [] by unfold namesR; rw [if_pos (List.length_eq_zero_iff.1 (by rw [← HNL.out.1]; omega))])
          go_wp2
          go_meet
          case rel => exact ⟨by unfold showT3; rw [HN.out, List.append_nil, ← HT3.out], K1.out⟩
      case rest =>
        obtain ⟨rfl, hk2⟩ := hcut
        have hls : (showT3 why n data ns).length ≤ 900000000 := by
          have h1 := names_len ns
          have h2 : (showT2 why n data).length = T3.size := by rw [HT3.out]; rfl
          have h3 := HNL.out
          unfold showT3 namesR namesP
          rw [List.length_append]
          split
          · simp; omega
          · simp; omega
        clear c3 HT3 hTs3
        obtain ⟨T5, hT5⟩ : ∃ T, T = strB (showT3 why n data ns) := ⟨_, rfl⟩
        rw [← hT5]
        have hTs5 : T5.size ≤ 900000000 := by rw [hT5, strB_size]; exact hls
        have HT5 := Lib.hid hT5
        clear hT5 hls
        have c4 := cell_blk (BOX.out wc hk2) 4
        have c5 := cell_blk (BOX.out wc hk2) 5
        have c6 := cell_blk (BOX.out wc hk2) 6
        have c7 := cell_blk (BOX.out wc hk2) 7
        have c8 := cell_blk (BOX.out wc hk2) 8
        have c9 := cell_blk (BOX.out wc hk2) 9
        have c10 := cell_blk (BOX.out wc hk2) 10
        simp only [List.getElem?_toArray, List.getElem?_cons_zero, List.getElem?_cons_succ] at c4 c5 c6 c7 c8 c9 c10
        have K2 := Lib.hid hk2
        obtain ⟨W5, hW5⟩ : ∃ W5, W5 = wc.alloc (.cells #[.int .i64 s0, .int .i64 s1, .int .i64 s2, .int .i64 s3, .int .i64 s4, .int .i64 s5, .int .i64 s6] 46) := ⟨_, rfl⟩
        have k5 := Keep.alloc wc (.cells #[.int .i64 s0, .int .i64 s1, .int .i64 s2, .int .i64 s3, .int .i64 s4, .int .i64 s5, .int .i64 s6] 46) (fun _ => False)
        have b5 := heap_alloc_eq wc (.cells #[.int .i64 s0, .int .i64 s1, .int .i64 s2, .int .i64 s3, .int .i64 s4, .int .i64 s5, .int .i64 s6] 46)
        obtain ⟨nb, hnb⟩ : ∃ nb, nb = wc.heap.size := ⟨_, rfl⟩
        rw [← hW5] at k5 b5
        rw [← hnb] at b5
        have K5 := Lib.hid (K2.out.trans k5 (fun _ q => q.elim))
        clear hk2 k5
        go_upto_region 16 with (fail)
        rw [← hW5, ← hnb]
        clear hW5 hnb
        clear c4 c5 c6 c7 c8 c9 c10
        have e0 := cell_blk b5 0
        have e1 := cell_blk b5 1
        have e2 := cell_blk b5 2
        have e3 := cell_blk b5 3
        have e4 := cell_blk b5 4
        have e5 := cell_blk b5 5
        have e6 := cell_blk b5 6
        simp only [List.getElem?_toArray, List.getElem?_cons_zero, List.getElem?_cons_succ] at e0 e1 e2 e3 e4 e5 e6
        clear b5
        obtain ⟨N0, hN0⟩ : ∃ N, N = strB (numR [110, 111, 100, 101] s0) := ⟨_, rfl⟩
        have hNs0 : N0.size ≤ 2000 := by rw [hN0, strB_size]; exact numR_len (by simp) (HZ.out s0 (by simp)).1 (HZ.out s0 (by simp)).2
        have r0 : ∀ U, Calls Tryd.prog 42 #[.string ⟨#[110, 111, 100, 101]⟩, .int .i64 s0] U fun e w' => e = .returned (.string N0) ∧ w' = U := fun U => by
          rw [hN0]
          exact rnumber_c [110, 111, 100, 101] (by simp) s0 (HZ.out s0 (by simp)).1 (HZ.out s0 (by simp)).2 U
        obtain ⟨N1, hN1⟩ : ∃ N, N = strB (numR [107, 105, 110, 100] s1) := ⟨_, rfl⟩
        have hNs1 : N1.size ≤ 2000 := by rw [hN1, strB_size]; exact numR_len (by simp) (HZ.out s1 (by simp)).1 (HZ.out s1 (by simp)).2
        have r1 : ∀ U, Calls Tryd.prog 42 #[.string ⟨#[107, 105, 110, 100]⟩, .int .i64 s1] U fun e w' => e = .returned (.string N1) ∧ w' = U := fun U => by
          rw [hN1]
          exact rnumber_c [107, 105, 110, 100] (by simp) s1 (HZ.out s1 (by simp)).1 (HZ.out s1 (by simp)).2 U
        obtain ⟨N2, hN2⟩ : ∃ N, N = strB (numR [109, 111, 100, 101] s2) := ⟨_, rfl⟩
        have hNs2 : N2.size ≤ 2000 := by rw [hN2, strB_size]; exact numR_len (by simp) (HZ.out s2 (by simp)).1 (HZ.out s2 (by simp)).2
        have r2 : ∀ U, Calls Tryd.prog 42 #[.string ⟨#[109, 111, 100, 101]⟩, .int .i64 s2] U fun e w' => e = .returned (.string N2) ∧ w' = U := fun U => by
          rw [hN2]
          exact rnumber_c [109, 111, 100, 101] (by simp) s2 (HZ.out s2 (by simp)).1 (HZ.out s2 (by simp)).2 U
        obtain ⟨N3, hN3⟩ : ∃ N, N = strB (numR [117, 105, 100] s3) := ⟨_, rfl⟩
        have hNs3 : N3.size ≤ 2000 := by rw [hN3, strB_size]; exact numR_len (by simp) (HZ.out s3 (by simp)).1 (HZ.out s3 (by simp)).2
        have r3 : ∀ U, Calls Tryd.prog 42 #[.string ⟨#[117, 105, 100]⟩, .int .i64 s3] U fun e w' => e = .returned (.string N3) ∧ w' = U := fun U => by
          rw [hN3]
          exact rnumber_c [117, 105, 100] (by simp) s3 (HZ.out s3 (by simp)).1 (HZ.out s3 (by simp)).2 U
        obtain ⟨N4, hN4⟩ : ∃ N, N = strB (numR [103, 105, 100] s4) := ⟨_, rfl⟩
        have hNs4 : N4.size ≤ 2000 := by rw [hN4, strB_size]; exact numR_len (by simp) (HZ.out s4 (by simp)).1 (HZ.out s4 (by simp)).2
        have r4 : ∀ U, Calls Tryd.prog 42 #[.string ⟨#[103, 105, 100]⟩, .int .i64 s4] U fun e w' => e = .returned (.string N4) ∧ w' = U := fun U => by
          rw [hN4]
          exact rnumber_c [103, 105, 100] (by simp) s4 (HZ.out s4 (by simp)).1 (HZ.out s4 (by simp)).2 U
        obtain ⟨N5, hN5⟩ : ∃ N, N = strB (numR [108, 105, 110, 107, 115] s5) := ⟨_, rfl⟩
        have hNs5 : N5.size ≤ 2000 := by rw [hN5, strB_size]; exact numR_len (by simp) (HZ.out s5 (by simp)).1 (HZ.out s5 (by simp)).2
        have r5 : ∀ U, Calls Tryd.prog 42 #[.string ⟨#[108, 105, 110, 107, 115]⟩, .int .i64 s5] U fun e w' => e = .returned (.string N5) ∧ w' = U := fun U => by
          rw [hN5]
          exact rnumber_c [108, 105, 110, 107, 115] (by simp) s5 (HZ.out s5 (by simp)).1 (HZ.out s5 (by simp)).2 U
        obtain ⟨N6, hN6⟩ : ∃ N, N = strB (numR [115, 105, 122, 101] s6) := ⟨_, rfl⟩
        have hNs6 : N6.size ≤ 2000 := by rw [hN6, strB_size]; exact numR_len (by simp) (HZ.out s6 (by simp)).1 (HZ.out s6 (by simp)).2
        have r6 : ∀ U, Calls Tryd.prog 42 #[.string ⟨#[115, 105, 122, 101]⟩, .int .i64 s6] U fun e w' => e = .returned (.string N6) ∧ w' = U := fun U => by
          rw [hN6]
          exact rnumber_c [115, 105, 122, 101] (by simp) s6 (HZ.out s6 (by simp)).1 (HZ.out s6 (by simp)).2 U
        have HT6 := Lib.hid (show strB (showT4 why n data ns s0 s1 s2 s3 s4 s5 s6) = T5 ++ N0 ++ N1 ++ N2 ++ N3 ++ N4 ++ N5 ++ N6 by
          unfold showT4
          rw [HT5.out, hN0, hN1, hN2, hN3, hN4, hN5, hN6, strB_append, strB_append, strB_append, strB_append, strB_append, strB_append, strB_append]
          simp)
        have g0 : ¬ 9223372036854775807 < T5.size + N0.size := by omega
        have g1 : ¬ 9223372036854775807 < T5.size + N0.size + N1.size := by omega
        have g2 : ¬ 9223372036854775807 < T5.size + N0.size + N1.size + N2.size := by omega
        have g3 : ¬ 9223372036854775807 < T5.size + N0.size + N1.size + N2.size + N3.size := by omega
        have g4 : ¬ 9223372036854775807 < T5.size + N0.size + N1.size + N2.size + N3.size + N4.size := by omega
        have g5 : ¬ 9223372036854775807 < T5.size + N0.size + N1.size + N2.size + N3.size + N4.size + N5.size := by omega
        have g6 : ¬ 9223372036854775807 < T5.size + N0.size + N1.size + N2.size + N3.size + N4.size + N5.size + N6.size := by omega
        clear hN0 hN1 hN2 hN3 hN4 hN5 hN6
        go_quiet (first
          | (go_at_call 42; with_reducible refine Calls.quiet_of_same (r0 _))
          | (go_at_call 42; with_reducible refine Calls.quiet_of_same (r1 _))
          | (go_at_call 42; with_reducible refine Calls.quiet_of_same (r2 _))
          | (go_at_call 42; with_reducible refine Calls.quiet_of_same (r3 _))
          | (go_at_call 42; with_reducible refine Calls.quiet_of_same (r4 _))
          | (go_at_call 42; with_reducible refine Calls.quiet_of_same (r5 _))
          | (go_at_call 42; with_reducible refine Calls.quiet_of_same (r6 _)))
        go_wp2
        go_ret
        exact ⟨by rw [HT6.out]; rfl, D.out.1.trans (K5.out.trans (drewN_keep _ (fun _ => False) _) (fun _ q => q.elim)) (fun _ q => q.elim)⟩

end Go.Proofs.YtdbkkfhneafeiaaDoor
