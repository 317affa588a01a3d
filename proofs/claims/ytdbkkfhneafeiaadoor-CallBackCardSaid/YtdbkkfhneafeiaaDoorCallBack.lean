/-
  CallBack: the walk.
-/
import Derived.Test.YtdbkkfhneafeiaaDoorCallP
import Derived.Test.YtdbkkfhneafeiaaDoorSameC
import Derived.Test.YtdbkkfhneafeiaaDoorOEnc
import Derived.Deep.DeepAppendWide
import Derived.StillTailTactics
import Derived.Below
import Derived.OpenShut
import Derived.Deep.Cut
namespace Go.Proofs.YtdbkkfhneafeiaaDoor
open Go Go.RowKit
set_option linter.unusedSectionVars false
set_option linter.unusedSimpArgs false
set_option linter.unusedVariables false
set_option maxRecDepth 100000
attribute [local go_sem] Oper.semAt_some

theorem addr_at (b off j : Nat) : ((⟨b, off, none⟩ : Addr).add j) = ⟨b, off + j, none⟩ := by
  unfold Addr.add
  split
  · rename_i h; rw [h]; rfl
  · rfl

theorem own_bsl {w : World} {v : Value} {l : Bs} (h : OwnB w v l) : BSl w v l := by
  have h' : w.ownsRow 0 5 1 v (l.map u8V).length (l.map u8V) := by rw [List.length_map]; exact h
  exact rows_bsl h' rfl

/-- What an append reads of a slice of bytes. -/
def NewsB (w : World) (a : Option Addr) (l : Bs) : Prop := l.length = 0 ∨ ∃ ad, a = some ad ∧ ∀ j u, (l.map u8V)[j]? = some u → w.cell? (ad.add j) = some u

theorem BSl.news {w : World} {a : Option Addr} {n cap : Nat} {l : Bs} (h : BSl w (.slice a n cap) l) : NewsB w a l := by
  by_cases h0 : l.length = 0
  · exact .inl h0
  · obtain ⟨b, off, rfl, _, hc⟩ := h.some (by omega)
    refine .inr ⟨_, rfl, fun j u hj => ?_⟩
    rw [addr_at]
    rw [List.getElem?_map] at hj
    cases hx : l[j]? with
    | none => rw [hx] at hj; simp at hj
    | some x => rw [hx] at hj; simp at hj; rw [← hj]; exact hc j x hx

theorem BSr.news {w : World} {a : Option Addr} {n cap : Nat} {l : Bs} (h : BSr w (.slice a n cap) l) : NewsB w a l := by
  rcases h with h | ⟨rfl, _⟩
  · exact h.news
  · exact .inl rfl

theorem OwnB.bsl {w : World} {v : Value} {l : Bs} (h : OwnB w v l) : BSl w v l := by
  rcases rows_val h with ⟨rfl, h0⟩ | ⟨g, cap, rfl, hc, _, hg⟩
  · exact .inl ⟨rfl, List.length_eq_zero_iff.1 h0⟩
  · refine .inr ⟨g, 0, cap, rfl, hc, ?_, hg, fun i u hi => ?_⟩
    · rcases h.2 with ⟨e, _⟩ | ⟨g', cap', cur, e, _, _, _, hcm, _⟩
      · cases e
      · cases e; exact hcm
    · rw [Nat.zero_add]
      exact (rows_cell h (mapGet (f := u8V) hi)).1

theorem u8_one (l : Bs) : ∀ u ∈ l.map u8V, u.oneCell' = true := by
  intro u hu
  obtain ⟨x, _, rfl⟩ := List.mem_map.1 hu
  rfl

section
variable {P : Program} {w : World} {ops : Array Oper} {rest : List Oper} {o : Oper} {a : Act} {Q : Exit → Act → World → Prop}
/-- 'append(x, b...)' of bytes, however many. -/
theorem law_append_wide (hg : o.guard = none) (s x : Operand) (t : TypeId) (ho : o.op = .call { callee := .builtin .append, args := #[s, x], argTypes := #[t, t] })
    {i : TypeInfo} (ht : P.underlying t = some (.slice 5)) (hi : P.info? 5 = some i) (hz : i.zero = some (.int .u8 0)) (hsize : i.size = 1) (hby : i.bytes = 1)
    {v : Value} {l m : Bs} (hs : a.eval s = v) (hown : OwnB w v l) {sa : Option Addr} {n c : Nat} (hx : a.eval x = .slice sa n c) (hn : m.length = n) (hnews : NewsB w sa m) (hl40 : l.length ≤ 1099511627776) (hlen : l.length + n ≤ 140737489355328)
    (hK : ∀ sa' cap' w', OwnB w' (.slice sa' (l ++ m).length cap') (l ++ m) → Keep w w' (fun b => some b = v.ownBlock) → wpList P ops Q rest (a.put o.dst (.slice sa' (l ++ m).length cap')) w') : wpList P ops Q (o :: rest) a w := by
  subst hn
  rcases hnews with h0 | ⟨ad, rfl, hc⟩
  · have hm : m = [] := List.length_eq_zero_iff.1 h0
    subst hm
    simp only [List.append_nil] at hK
    refine law_append_row hg s x t ho ht hi hz hsize (by omega) rfl (by decide) hs hown (m := 0) [] hx rfl (.inl rfl) (fun u hu => by simp at hu) hl40 ?_
    intro sa' cap' w' r1 r2 _
    simp only [Nat.add_zero, List.append_nil] at r1 ⊢
    exact hK sa' cap' w' r1 r2
  · refine wpList_append_own_wide w hg s x t ho 0 5 i (.int .u8 0) 1 1 ht hi hz hsize hby rfl (by decide) v l.length (l.map u8V) hs hown ad m.length c (m.map u8V) hx (by simp) hc (u8_one m) (by unfold maxLen; omega) (by omega) (Nat.zero_le _) ?_
    intro v' w' r1 r2 _
    obtain ⟨sa', cap', rfl, _⟩ := rows_val2 r1
    have e : l.length + m.length = (l ++ m).length := by simp
    rw [e] at r1 ⊢
    exact hK sa' cap' w' (rows_own r1 rfl (by simp)) (Keep.grown r2)
end

theorem decC_fault {b : Bs} {c : CallV} {n : Nat} {e : Int} (h : decC b = (c, n, e)) (he : e ≠ 0) : c = CallV.none ∧ n = 0 := by
  unfold decC at h
  obtain ⟨c', s, hs⟩ : ∃ c s, callS b = (c, s) := ⟨_, _, rfl⟩
  rw [hs] at h
  cases s with
  | none => simp only [Prod.mk.injEq] at h; exact ⟨h.1.symm, h.2.1.symm⟩
  | some p =>
    simp only at h
    split at h
    · simp only [Prod.mk.injEq] at h; exact absurd h.2.2.symm he
    · simp only [Prod.mk.injEq] at h; exact ⟨h.1.symm, h.2.1.symm⟩

set_option maxHeartbeats 8000000 in
theorem cback_walk (cc1 : CallV) (a : Option Addr) (cap : Nat) (a1 : Option Addr) (len1 cap1 : Nat) (z1 : List Int) (W : World) (ht : Tabs W) (h0 : BSr W (.slice a cc1.data.length cap) cc1.data ∧ (cc1.path.size ≤ 9223372036854775807 ∧ cc1.to.size ≤ 9223372036854775807 ∧ cc1.data.length ≤ 9223372036854775807) ∧ ∀ x : Fin 5, -9223372036854775808 ≤ cc1.num x.val ∧ cc1.num x.val ≤ 9223372036854775807) (h1 : RowIs W a1 len1 cap1 z1) (hsz : len1 ≤ 140737488351232) :
    Calls Tryd.prog 7 #[callA cc1 (.slice a cc1.data.length cap), .slice a1 len1 cap1] W fun r w' => r = .returned (.bool true) ∧ Below W.heap.size W w' := by
  obtain ⟨m, hml, hmm, hmr⟩ := bsr_of_row h1
  unfold maxLen at hmm
  obtain ⟨W1, hW1⟩ : ∃ W1, W1 = W.alloc (.cells (callC cc1 (.slice a cc1.data.length cap)).toArray 24) := ⟨_, rfl⟩
  have k1 := Keep.alloc W (.cells (callC cc1 (.slice a cc1.data.length cap)).toArray 24) (fun _ => False)
  have b1 := heap_alloc_eq W (.cells (callC cc1 (.slice a cc1.data.length cap)).toArray 24)
  rw [← hW1] at k1 b1
  have he := oenc_c cc1 a cap (h0.1.aside k1) h0.2.1
  have hrt := fun U => oright_c cc1 a cap U h0.2.1
  have D0 := h0.1.aside k1
  simp only [callC] at hW1 b1
  have d0 := cell_blk b1 0
  have d1 := cell_blk b1 1
  have d2 := cell_blk b1 2
  have d3 := cell_blk b1 3
  have d4 := cell_blk b1 4
  have d5 := cell_blk b1 5
  have d6 := cell_blk b1 6
  have d7 := cell_blk b1 7
  have d8 := cell_blk b1 8
  simp only [List.getElem?_toArray, List.getElem?_cons_zero, List.getElem?_cons_succ] at d0 d1 d2 d3 d4 d5 d6 d7 d8
  simp only [callA] at he hrt ⊢
  obtain ⟨R, hR⟩ : ∃ R, R = cc1.right := ⟨_, rfl⟩
  rw [← hR] at he
  simp only [← hR] at hrt
  obtain ⟨E, hE⟩ : ∃ E, E = (if R = 0 then cc1.enc else []) := ⟨_, rfl⟩
  rw [← hE] at he
  have hEl : E.length ≤ 300000 := by
    rw [hE]
    split
    · rename_i h
      have hf := CallV.fits_of (hR ▸ h : cc1.right = 0)
      have := enc_length cc1
      have := hf.path
      have := hf.to
      have := hf.data
      omega
    · simp
  have HE := Lib.hid (show R = 0 → decC (E ++ m) = (cc1, E.length, 0) from fun h => by
    rw [hE, if_pos h]
    exact decC_enc (by rw [← hR]; exact h) m)
  have HT := Lib.hid ht
  have HM := Lib.hid (And.intro hmr hml)
  have HW := Lib.hid (And.intro k1 (And.intro b1 D0))
  clear hR hE k1 b1 ht hmr hml D0 h0 h1
  obtain ⟨ti, ti1, ti2, ti3, ti4⟩ := u8_info
  have HI := Lib.hid (And.intro ti1 (And.intro ti2 (And.intro ti3 ti4)))
  clear ti1 ti2 ti3 ti4
  go_enter Tryd.func7, Tryd.ntmps7
  go_upto_region 1 with (fail)
  rw [← hW1]
  clear hW1
  go_upto_region 2 with (
    go_at_call 18
    with_reducible refine he.mono ?_
    rintro e w1 ⟨v1, rfl, q1, q2, q3⟩
    obtain ⟨ax, nx, capx, rfl, rfl⟩ := q1.val
    have e0 := q2.cell d0 (fun q => q)
    have e1 := q2.cell d1 (fun q => q)
    have e2 := q2.cell d2 (fun q => q)
    have e3 := q2.cell d3 (fun q => q)
    have e4 := q2.cell d4 (fun q => q)
    have e5 := q2.cell d5 (fun q => q)
    have e6 := q2.cell d6 (fun q => q)
    have e7 := q2.cell d7 (fun q => q)
    have e8 := q2.cell d8 (fun q => q)
    have N1 := Lib.hid (And.intro q1 q2)
    clear he q1 q2 q3)
  go_upto_if 21 with (fail)
  go_cut [] from 15 (fun wc => Keep W1 wc (fun _ => False))
  case first =>
    by_cases hr0 : R = 0
    · subst hr0
      have hdec := HE.out rfl
      have hnb : ((E.length : Int) != (E.length : Int)) = false := by simp
      have hz1 : (Value.int .u8 0).cells.size = 1 := rfl
      have ra0 := rows_empty (e := 5) (sz := 1) (heap_alloc_eq w1 (.cells #[] 5))
      have ka0 := Keep.alloc w1 (.cells #[] 5) (fun _ => False)
      have za0 : (w1.alloc (.cells #[] 5)).heap.size = w1.heap.size + 1 := by simp
      have RA := Lib.hid (And.intro ra0 (And.intro ka0 za0))
      have HDEC := Lib.hid hdec
      clear ra0 ka0 za0 hdec
      go_wp2_with (first
        | (at_builtin
           refine law_append_row rfl _ _ _ rfl Tryd.underlying22 HI.out.1 HI.out.2.1 HI.out.2.2.1 (by rw [HI.out.2.2.2]; decide) hz1 (by decide) rfl RA.out.1 (E.map u8V) rfl (by simp) ((BSl.aside (own_bsl N1.out.1) RA.out.2.1).news) (u8_one E) (by simp; omega) ?_
           intro sa3 cap3 w3 r1 r2 r3
           have k3 : Keep w1 w3 (fun _ => False) := RA.out.2.1.trans r2 (fun b q => .inr (by have q' : some b = some w1.heap.size := q; cases q'; exact Nat.le_refl _))
           have h3 : OwnB w3 (.slice sa3 E.length cap3) E := by
             have h := rows_own (l := E) r1 (by simp) (by simp)
             rwa [Nat.zero_add] at h
           have f3 : ∀ b, (Value.slice sa3 E.length cap3).ownBlock = some b → w1.heap.size ≤ b := fun b q => by
             rw [Nat.zero_add] at r3
             rcases r3 b q with z | z
             · have z' : some w1.heap.size = some b := z
               cases z'; exact Nat.le_refl _
             · rw [z, RA.out.2.2]; omega
           have N3 := Lib.hid (And.intro h3 (And.intro k3 f3))
           clear r1 r2 r3 k3 h3 f3)
        | (at_builtin
           refine law_append_wide rfl _ _ _ rfl Tryd.underlying22 HI.out.1 HI.out.2.1 HI.out.2.2.1 HI.out.2.2.2 rfl N3.out.1 rfl HM.out.2 (HM.out.1.aside ((HW.out.1.trans N1.out.2 (fun _ q => q.elim)).trans N3.out.2.1 (fun _ q => q.elim))).news (by omega) (by omega) ?_
           intro sa4 cap4 w4 r1 r2
           obtain ⟨nn, hnn⟩ : ∃ nn, nn = (E ++ m).length := ⟨_, rfl⟩
           rw [← hnn] at r1 ⊢
           have hd := odec_c (own_bsl r1)
           rw [HDEC.out] at hd
           simp only [callA] at hd
           have N4 := Lib.hid (N3.out.2.1.trans r2 (fun b q => .inr (N3.out.2.2 b q.symm)))
           clear r1 r2 hnn)
        | (go_at_call 12
           with_reducible refine hd.mono ?_
           rintro e w5 ⟨a5, cap5, rfl, q1, q2, -⟩
           have k5 := Keep.alloc w5 (.cells (callC cc1 (.slice a5 cc1.data.length cap5)).toArray 24) (fun _ => False)
           have b5 := heap_alloc_eq w5 (.cells (callC cc1 (.slice a5 cc1.data.length cap5)).toArray 24)
           have kk := (N4.out.trans q2 (fun _ q => q.elim)).trans k5 (fun _ q => q.elim)
           have hki := kcall_c (c := cc1) (HW.out.2.2.aside (N1.out.2.trans kk (fun _ q => q.elim))) (.inl (q1.aside k5))
           simp only [callC, callA] at k5 b5 kk hki
           have m0 := kk.cell e0 (fun q => q)
           have m1 := kk.cell e1 (fun q => q)
           have m2 := kk.cell e2 (fun q => q)
           have m3 := kk.cell e3 (fun q => q)
           have m4 := kk.cell e4 (fun q => q)
           have m5 := kk.cell e5 (fun q => q)
           have m6 := kk.cell e6 (fun q => q)
           have m7 := kk.cell e7 (fun q => q)
           have m8 := kk.cell e8 (fun q => q)
           have t0 := cell_blk b5 0
           have t1 := cell_blk b5 1
           have t2 := cell_blk b5 2
           have t3 := cell_blk b5 3
           have t4 := cell_blk b5 4
           have t5 := cell_blk b5 5
           have t6 := cell_blk b5 6
           have t7 := cell_blk b5 7
           have t8 := cell_blk b5 8
           simp only [List.getElem?_toArray, List.getElem?_cons_zero, List.getElem?_cons_succ] at t0 t1 t2 t3 t4 t5 t6 t7 t8
           have N5 := Lib.hid kk
           clear q1 q2 k5 b5 kk hd)
        | (go_at_call 14
           with_reducible refine hki.mono ?_
           rintro e w7 ⟨rfl, k7⟩
           have N7 := Lib.hid (N5.out.trans k7 (fun _ q => q.elim))
           clear k7 hki))
      go_meet
      case rel => exact N1.out.2.trans N7.out (fun _ q => q.elim)
    · have hrb : (R == 0) = false := by simp [hr0]
      go_wp2_with (
        go_at_call 19
        with_reducible refine (hrt _).mono ?_
        rintro e w3 ⟨rfl, k3⟩
        have N3 := Lib.hid k3
        clear k3)
      go_meet
      case rel => exact N1.out.2.trans N3.out (fun _ q => q.elim)
  case rest =>
    have HC := Lib.hid hcut
    clear hcut e0 e1 e2 e3 e4 e5 e6 e7 e8 N1 HE hrt
    obtain ⟨dc, dn, de, hdec⟩ : ∃ dc dn de, decC m = (dc, dn, de) := ⟨_, _, _, rfl⟩
    have hd := odec_r (HM.out.1.aside (HW.out.1.trans HC.out (fun _ q => q.elim)))
    rw [hdec] at hd
    simp only [callA] at hd
    have HD := Lib.hid hdec
    clear hdec
    go_upto_if 57 with (
      go_at_call 12
      with_reducible refine hd.mono ?_
      rintro e w5 ⟨a5, cap5, rfl, q1, q2, -⟩
      have k5 := Keep.alloc w5 (.cells (callC dc (.slice a5 dc.data.length cap5)).toArray 24) (fun _ => False)
      have b5 := heap_alloc_eq w5 (.cells (callC dc (.slice a5 dc.data.length cap5)).toArray 24)
      have kk := q2.trans k5 (fun _ q => q.elim)
      have Q5 := q1.aside k5
      simp only [callC] at k5 b5 kk Q5
      have t0 := cell_blk b5 0
      have t1 := cell_blk b5 1
      have t2 := cell_blk b5 2
      have t3 := cell_blk b5 3
      have t4 := cell_blk b5 4
      have t5 := cell_blk b5 5
      have t6 := cell_blk b5 6
      have t7 := cell_blk b5 7
      have t8 := cell_blk b5 8
      simp only [List.getElem?_toArray, List.getElem?_cons_zero, List.getElem?_cons_succ] at t0 t1 t2 t3 t4 t5 t6 t7 t8
      have N5 := Lib.hid (And.intro Q5 ((HW.out.1.trans HC.out (fun _ q => q.elim)).trans kk (fun _ q => q.elim)))
      clear q1 q2 k5 b5 kk Q5 hd)
    by_cases hde : de = 0
    · subst hde
      obtain ⟨hr, hmeq, hdn⟩ := decC_inv HD.out
      have hf := CallV.fits_of hr
      have henc := enc_length dc
      have hen := oenc_c dc a5 cap5 (.inl N5.out.1) ⟨by have := hf.path; omega, by have := hf.to; omega, by have := hf.data; omega⟩
      rw [if_pos hr, hr] at hen
      simp only [callA] at hen
      have hmn : m ≠ [] := fun e => by
        have := congrArg List.length hmeq
        rw [e] at this
        simp at this
        omega
      have hmB := HM.out.1.bsl hmn
      obtain ⟨_, _, hv1, hlc1, _⟩ := hmB.val
      simp only [Value.slice.injEq] at hv1
      obtain ⟨-, -, hv2⟩ := hv1
      obtain ⟨gm, offm, rfl, -, -⟩ := hmB.some (by have := List.length_pos_iff.2 hmn; exact this)
      have hdl : dn ≤ m.length := by
        have := congrArg List.length hmeq
        rw [List.length_append] at this
        omega
      have htake : m.take dn = dc.enc := by rw [hmeq, hdn, List.take_left]
      have hpart := hmB.part (i := 0) (n := dn) (by omega) (off' := offm) (.inl rfl)
      rw [List.drop_zero, htake] at hpart
      have hml := HM.out.2
      have x1 : (dn : Int) ≤ (len1 : Int) := by omega
      have x2 : dn ≤ len1 := by omega
      have x3 : dn ≤ cap1 := by omega
      have x4 : (dn : Int) ≤ (cap1 : Int) := by omega
      obtain ⟨S, hS⟩ : ∃ S, S = strB dc.enc := ⟨_, rfl⟩
      have gS : (S.toList == S.toList) = true := by simp
      have hc2 : ∀ U, Keep W U (fun _ => False) → (convert 22 9 (.slice (some ⟨gm, offm, none⟩) dn cap1)).run Tryd.prog U = .ok (.string S) U := fun U k => by
        rw [hS]
        exact str_of 22 9 Tryd.underlying22 Tryd.underlying5 Tryd.underlying9 (hpart.aside k)
      have HC2 := Lib.hid hc2
      have HS := Lib.hid hS
      clear hr hmeq hdn hf henc hmn hmB hlc1 hv2 hdl htake hpart hml hS hc2
      go_upto_region 12 with (
        go_at_call 18
        with_reducible refine hen.mono ?_
        rintro e w6 ⟨v6, rfl, q1, q2, -⟩
        obtain ⟨a6, n6, cap6, rfl, rfl⟩ := q1.val
        have KW6 : Keep W w6 (fun _ => False) := N5.out.2.trans q2 (fun _ q => q.elim)
        have hb6 := own_bsl q1
        have c1d : ∀ U, Keep w6 U (fun _ => False) → (convert 22 9 (.slice a6 dc.enc.length cap6)).run Tryd.prog U = .ok (.string S) U := fun U k => by
          rw [HS.out]
          exact str_of 22 9 Tryd.underlying22 Tryd.underlying5 Tryd.underlying9 (hb6.aside k)
        have cv1 := c1d w6 (Keep.refl _ _)
        have cv1d := fun q => c1d (w6.drewN q) (drewN_keep _ _ _)
        have cv1e := c1d w6.drew (Keep.drew _ _)
        have cv2 := HC2.out w6 KW6
        have cv2d := fun q => HC2.out (w6.drewN q) (KW6.trans (drewN_keep _ (fun _ => False) _) (fun _ q => q.elim))
        have cv2e := HC2.out w6.drew (KW6.trans (Keep.drew _ (fun _ => False)) (fun _ q => q.elim))
        have N6 := Lib.hid KW6
        clear q1 q2 hen hb6 c1d KW6)
      go_still_tail 18, (by kernel_rfl)
      change wpList _ _ _ _ _ w6.drew
      have N7 := Lib.hid (N6.out.trans (Keep.drew w6 (fun _ => False)) (fun _ q => q.elim))
      clear cv1 cv1d cv1e cv2 cv2d cv2e
      generalize w6.drew = w8 at *
      go_wp2_with (
        go_at_call 16
        refine (known_c _ (HT.out.keep N7.out)).mono ?_
        rintro e w9 ⟨rfl, k9⟩)
      go_ret
      exact ⟨rfl, Keep.below (N7.out.trans k9 (fun _ q => q.elim)) (Nat.le_refl _) (fun b q => q.elim)⟩
    · obtain ⟨rfl, rfl⟩ := decC_fault HD.out hde
      have hdb : (de != 0) = true := by simp [hde]
      have hki := kcall_c (c := CallV.none) (.inl N5.out.1) (.inl (BSl.nil _))
      simp only [callA, CallV.none] at hki
      simp only [CallV.none] at t0 t1 t2 t3 t4 t5 t6 t7 t8
      go_wp2_with (first
        | (go_at_call 14
           refine hki.mono ?_
           rintro e w7 ⟨rfl, k7⟩
           have N7 := Lib.hid (N5.out.2.trans k7 (fun _ q => q.elim))
           clear k7 hki)
        | (go_at_call 16
           refine (known_c _ (HT.out.keep N7.out)).mono ?_
           rintro e w9 ⟨rfl, k9⟩))
      go_ret
      exact ⟨rfl, Keep.below (N7.out.trans k9 (fun _ q => q.elim)) (Nat.le_refl _) (fun b q => q.elim)⟩

end Go.Proofs.YtdbkkfhneafeiaaDoor
