/-
  ScriptCounts: bytes have no more items than bytes; what stands behind whole items is read as if it stood alone.
-/
import Derived.Test.YtmokbgihpfnmbaaItemsCat
import Derived.Below
import Derived.Deep.Cut
namespace Go.Proofs.Ytmokbgihpfnmbaa
open Go Go.RowKit
set_option linter.unusedSectionVars false
set_option linter.unusedSimpArgs false
set_option linter.unusedVariables false

theorem enc_sum {L : List ItemV} (hr : ∀ i ∈ L, i.right = 0) : (L.flatMap ItemV.enc).length ≤ L.length * 20000 := by
  induction L with
  | nil => simp
  | cons i M ih =>
    rw [List.flatMap_cons, List.length_append, List.length_cons]
    have := ih (fun j hj => hr j (List.mem_cons_of_mem _ hj))
    have := enc_len (hr i (List.mem_cons_self ..))
    omega

/-- What stands behind whole items is read as if it stood alone. -/
theorem counts_say {L : List ItemV} (hr : ∀ i ∈ L, i.right = 0) (hl : L.length ≤ 20) {b : Bs} (hb : b.length ≤ 800) : decS 1024 (L.flatMap ItemV.enc ++ b) = L ++ decS 1024 b := by
  rw [decS_encs hr 1024 b (by omega)]
  congr 1
  have := decS_more b (1024 - L.length) L.length (by omega)
  rw [← this]
  congr 1
  omega

set_option maxRecDepth 100000 in
set_option maxHeartbeats 8000000 in
theorem counts_walk (a : Option Addr) (len cap : Nat) (a1 : Option Addr) (len1 cap1 : Nat) (z1 : List Int) (W : World) (h0 : ∃ L, ItemsIn W (.slice a len cap) L ∧ L.length = len ∧ ∀ i ∈ L, Lens i) (h1 : RowIs W a1 len1 cap1 z1) :
    Calls Try.prog 8 #[.slice a len cap, .slice a1 len1 cap1] W fun r w' => r = .returned (.bool true) ∧ Below W.heap.size W w' := by
  obtain ⟨L0, hI, hlen, hlens⟩ := h0
  obtain ⟨b0, hb0, hbm, hbr⟩ := bsr_of_row h1
  obtain ⟨_, _, hv, hlc, hcm⟩ := hI.val
  simp only [Value.slice.injEq] at hv
  obtain ⟨-, -, rfl⟩ := hv
  rw [hlen] at hlc
  obtain ⟨_, _, hv, hlc1, hcm1⟩ := hbr.val
  simp only [Value.slice.injEq] at hv
  obtain ⟨-, -, rfl⟩ := hv
  rw [hb0] at hlc1
  unfold maxLen at hcm hcm1 hbm
  obtain ⟨L, hL⟩ : ∃ L, L = L0.take 20 := ⟨_, rfl⟩
  have hn : L.length = min len 20 := by rw [hL, List.length_take]; omega
  have hIt : ItemsIn W (.slice a L.length cap) L := by
    have h := hI.take (j := L.length) (by omega)
    have e : L0.take L.length = L0.take 20 := by rw [List.take_eq_take_iff]; omega
    rw [e, ← hL] at h
    exact h
  obtain ⟨b, hb⟩ : ∃ b, b = b0.take 800 := ⟨_, rfl⟩
  have hbn : b.length = min len1 800 := by rw [hb, List.length_take]; omega
  have hbt : BSr W (.slice a1 b.length cap1) b := by
    have h := hbr.take (k := b.length) (by omega)
    have e : b0.take b.length = b0.take 800 := by rw [List.take_eq_take_iff]; omega
    rw [e, ← hb] at h
    exact h
  have hl20 : L.length ≤ 20 := by omega
  have hlc2 : L.length ≤ cap := by omega
  have hb80 : b.length ≤ 800 := by omega
  have hs := senc_c hIt (fun i hi => hlens i (by rw [hL] at hi; exact List.mem_of_mem_take hi))
  obtain ⟨xsL, hxL, hXL⟩ := hIt.ex
  have hxl : xsL.length = L.length := by rw [← hxL, List.length_map]
  have H := Lib.hid (And.intro hXL (And.intro hxL hxl))
  have HB := Lib.hid hbt
  have Hn := Lib.hid (And.intro hn hbn)
  clear hI hlens hL hIt hlen hn hb0 hbm hbr h1 hb hbn hbt hXL hxL hxl
  go_enter Try.func8, Try.ntmps8
  go_upto_if 11 with (fail)
  go_cut [0] from 9 (fun s wc => s = .slice a L.length cap ∧ W = wc)
  case first =>
    by_cases h5 : 20 < len
    all_goals
      go_wp2
      go_meet
      case rel => exact ⟨by rw [Hn.out.1]; congr 1; omega, rfl⟩
  case rest =>
    obtain ⟨rfl, rfl⟩ := hcut
    obtain ⟨E, hE⟩ : ∃ E, E = encS L := ⟨_, rfl⟩
    rw [← hE] at hs
    have HE := Lib.hid hE
    clear hE
    by_cases hz : E.2 = 0
    · have hEB : encS L = (E.1, 0) := by rw [← HE.out, ← hz]
      obtain ⟨_, hright, hB⟩ := encS_inv hEB
      obtain ⟨B, hBB⟩ : ∃ B, B = E.1 := ⟨_, rfl⟩
      rw [hz, ← hBB] at hs
      rw [← hBB] at hB
      have hBl : B.length ≤ 400000 := by rw [hB]; have := enc_sum hright; omega
      obtain ⟨M, hM⟩ : ∃ M, M = decS 1024 b := ⟨_, rfl⟩
      have hsay : decS 1024 (B ++ b) = L ++ M := by rw [hB, hM]; exact counts_say hright hl20 hb80
      have hM1 := (decS_len b 1024).1
      have hM2 := (decS_len b 1024).2
      rw [← hM] at hM1 hM2
      have HS := Lib.hid (And.intro hM hsay)
      clear hEB hright hB hBB hz hM hsay
      go_upto_if 24 with (
        go_at_call 17
        refine hs.mono ?_
        rintro e w1 ⟨v1, rfl, q1, q2, -⟩
        obtain ⟨a2, n2, cap2, rfl, rfl⟩ := q1.val
        have N1 := Lib.hid (And.intro q1.bsl q2)
        clear hs q1 q2)
      go_cut [1] from 22 (fun s wc => s = .slice a1 b.length cap1 ∧ w1 = wc)
      case first =>
        by_cases h5 : 800 < len1
        all_goals
          go_wp2
          go_meet
          case rel => exact ⟨by rw [Hn.out.2]; congr 1; omega, rfl⟩
      case rest =>
        obtain ⟨rfl, rfl⟩ := hcut
        have hd1 := sdec_r (HB.out.aside N1.out.2)
        rw [← HS.out.1] at hd1
        obtain ⟨ti, ti1, ti2, ti3, ti4⟩ := u8_info
        have HI := Lib.hid (And.intro ti1 (And.intro ti2 (And.intro ti3 ti4)))
        clear ti1 ti2 ti3 ti4
        obtain ⟨tj, tj1, tj2, tj3, tj4⟩ := item_info
        have HJ := Lib.hid (And.intro tj1 (And.intro tj2 (And.intro tj3 tj4)))
        have HJ2 := Lib.hid (show (L.length + M.length) * tj.bytes ≤ 1099511627776 * 64 by
          have : (L.length + M.length) * tj.bytes ≤ 1044 * 128 := Nat.mul_le_mul (by omega) tj4
          omega)
        have HJ1 := Lib.hid (show (0 + L.length) * tj.bytes ≤ 1099511627776 * 64 by
          have : (0 + L.length) * tj.bytes ≤ 1044 * 128 := Nat.mul_le_mul (by omega) tj4
          omega)
        clear tj1 tj2 tj3 tj4
        have f1 : (M.length : Int) ≤ (b.length : Int) := by omega
        have f2 : (M.length : Int) ≤ 1024 := by omega
        go_wp2_with (first
          | (go_at_call 13
             refine hd1.mono ?_
             rintro e w2 ⟨u2, rfl, q1, q2⟩
             obtain ⟨a3, cap3, rfl, hc3, hm3⟩ := q1.val
             obtain ⟨xsM, hxM, hXM⟩ := q1.ex
             have hxm : xsM.length = M.length := by rw [← hxM, List.length_map]
             have N2 := Lib.hid (And.intro hXM (And.intro hxM (And.intro hxm (And.intro (N1.out.2.trans q2 (fun _ q => q.elim)) (N1.out.1.aside q2)))))
             clear q1 q2 hd1 hxM hXM hxm)
          | (at_builtin
             refine law_append_row (v := .slice (some ⟨w2.heap.size, 0, none⟩) 0 0) rfl _ _ _ rfl Try.underlying22 HI.out.1 HI.out.2.1 HI.out.2.2.1 (by rw [HI.out.2.2.2]; decide) rfl (by decide) rfl (rows_empty (heap_alloc_eq w2 _)) (B.map u8V) rfl (by simp) (N2.out.2.2.2.2.aside (Keep.alloc w2 _ (fun _ => False))).news (u8_one B) (by omega) ?_
             intro sa4 cap4 w4 r1 r2 r3
             have r4 := fresh1 r2 r3
             simp only [Nat.zero_add, List.nil_append] at r1 r4 ⊢
             have N4 := Lib.hid (And.intro r1 (And.intro (N2.out.2.2.2.1.trans r4.1 (fun _ q => q.elim)) r4))
             clear r1 r2 r3 r4)
          | (at_builtin
             refine law_append_row (v := .slice sa4 B.length cap4) rfl _ _ _ rfl Try.underlying22 HI.out.1 HI.out.2.1 HI.out.2.2.1 (by rw [HI.out.2.2.2]; decide) rfl (by decide) rfl N4.out.1 (b.map u8V) rfl (by simp) (HB.out.aside N4.out.2.1).news (u8_one b) (by omega) ?_
             intro sa5 cap5 w5 r1 r2 r3
             have r4 := fresh2 N4.out.2.2.1 N4.out.2.2.2 r2 r3
             have hd5 := sdec_c (OwnB.bsl (rows_own (l := B ++ b) r1 (by simp) (by simp)))
             rw [HS.out.2] at hd5
             have N5 := Lib.hid (And.intro (N2.out.2.2.2.1.trans r4.1 (fun _ q => q.elim)) r4.1)
             clear r1 r2 r3 r4)
          | (go_at_call 13
             refine hd5.mono ?_
             rintro e w6 ⟨u6, rfl, q1, q2⟩
             obtain ⟨a6, cap6, e6, hc6, hm6⟩ := q1.val
             rw [List.length_append] at e6
             subst e6
             have N6 := Lib.hid (And.intro q1 (And.intro (N5.out.1.trans q2 (fun _ q => q.elim)) (N5.out.2.trans q2 (fun _ q => q.elim))))
             clear q1 q2 hd5)
          | (at_builtin
             refine wpList_wanted (by rfl) (fun K hK => wp_append_rowB (v := .slice (some ⟨w6.heap.size, 0, none⟩) 0 0) _ _ _ rfl Try.underlying23 HJ.out.1 HJ.out.2.1 HJ.out.2.2.1 rfl (by decide) rfl (rows_empty (heap_alloc_eq w6 _)) (flat pairC xsL) rfl (by rw [flat_len pairC 12 pairC_len, H.out.2.2]) ((H.out.1.aside (N6.out.2.1.trans (Keep.alloc w6 _ (fun _ => False)) (fun _ q => q.elim))).news H.out.2.2) (pair_one H.out.1.good) (by omega) HJ1.out (fun sa7 cap7 w7 r1 r2 r3 => hK _ _ ?_))
             have r4 := fresh1 r2 r3
             simp only [Nat.zero_add, List.nil_append] at r1 r4 ⊢
             have N7 := Lib.hid (And.intro r1 (And.intro (N6.out.2.1.trans r4.1 (fun _ q => q.elim)) r4))
             clear r1 r2 r3 r4)
          | (at_builtin
             refine wpList_wanted (by rfl) (fun K hK => wp_append_rowB (v := .slice sa7 L.length cap7) _ _ _ rfl Try.underlying23 HJ.out.1 HJ.out.2.1 HJ.out.2.2.1 rfl (by decide) rfl N7.out.1 (flat pairC xsM) rfl (by rw [flat_len pairC 12 pairC_len, N2.out.2.2.1]) ((N2.out.1.aside ((N6.out.2.2).trans N7.out.2.2.1 (fun _ q => q.elim))).news N2.out.2.2.1) (pair_one N2.out.1.good) (by omega) HJ2.out (fun sa8 cap8 w8 r1 r2 r3 => hK _ _ ?_))
             have r4 := fresh2 N7.out.2.2.1 N7.out.2.2.2 r2 r3
             have kL := N6.out.2.1.trans r4.1 (fun _ q => q.elim)
             have kM := N6.out.2.2.trans r4.1 (fun _ q => q.elim)
             have hin := items_of_row (xs := xsL ++ xsM) (by rw [flat_append]; exact r1) (by rw [List.length_append, H.out.2.2, N2.out.2.2.1]) (fun x hx => by
               rcases List.mem_append.1 hx with q | q
               · exact (H.out.1.aside kL).good x q
               · exact (N2.out.1.aside kM).good x q)
             rw [List.map_append, H.out.2.1, N2.out.2.1] at hin
             have hki := kitems_c (N6.out.1.aside r4.1) hin
             have N8 := Lib.hid kL
             clear r1 r2 r3 r4 kL kM hin)
          | (go_at_call 12
             refine hki.mono ?_
             rintro e w9 ⟨rfl, k9⟩
             clear hki)
          | (go_at_call 16
             refine (known_c _).mono ?_
             rintro e w10 ⟨rfl, k10⟩))
        go_ret
        exact ⟨rfl, Keep.below (N8.out.trans (k9.trans k10 (fun _ q => q.elim)) (fun _ q => q.elim)) (Nat.le_refl _) (fun b q => q.elim)⟩
    · go_wp2_with fail
      refine hs.mono ?_
      rintro e w1 ⟨v1, rfl, q1, q2, -⟩
      have e1 : (E.2 == 0) = false := by simpa using hz
      go_wp2_with (first
        | (go_at_call 16
           refine (known_c _).mono ?_
           rintro e w5 ⟨rfl, q5⟩))
      go_ret
      exact ⟨rfl, Keep.below (q2.trans q5 (fun _ q => q.elim)) (Nat.le_refl _) (fun b q => q.elim)⟩

end Go.Proofs.Ytmokbgihpfnmbaa
