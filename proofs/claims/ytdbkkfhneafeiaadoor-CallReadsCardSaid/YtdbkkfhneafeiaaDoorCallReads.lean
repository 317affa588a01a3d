/-
  CallReads: the walk.
-/
import Derived.Test.YtdbkkfhneafeiaaDoorCallP
import Derived.Test.YtdbkkfhneafeiaaDoorSameC
import Derived.Test.YtdbkkfhneafeiaaDoorRoomy
import Derived.Test.YtdbkkfhneafeiaaDoorREnc
import Derived.Deep.DeepAppendWide
import Derived.Below
import Derived.OpenShut
import Derived.Deep.Cut
namespace Go.Proofs.YtdbkkfhneafeiaaDoor
open Go Go.RowKit
set_option linter.unusedSectionVars false
set_option linter.unusedSimpArgs false
set_option linter.unusedVariables false
set_option maxRecDepth 100000
attribute [local go_sem] Oper.semAt_some

theorem addr_at (b off j : Nat) : ((⟨b, off, none⟩ : Addr).add j) = ⟨b, off + j, none⟩ := by
  unfold Addr.add
  split
  · rename_i h; rw [h]; rfl
  · rfl

theorem own_bsl {w : World} {v : Value} {l : Bs} (h : OwnB w v l) : BSl w v l := by
  have h' : w.ownsRow 0 5 1 v (l.map u8V).length (l.map u8V) := by rw [List.length_map]; exact h
  exact rows_bsl h' rfl

/-- What an append reads of a slice of bytes. -/
def NewsB (w : World) (a : Option Addr) (l : Bs) : Prop := l.length = 0 ∨ ∃ ad, a = some ad ∧ ∀ j u, (l.map u8V)[j]? = some u → w.cell? (ad.add j) = some u

theorem BSl.news {w : World} {a : Option Addr} {n cap : Nat} {l : Bs} (h : BSl w (.slice a n cap) l) : NewsB w a l := by
  by_cases h0 : l.length = 0
  · exact .inl h0
  · obtain ⟨b, off, rfl, _, hc⟩ := h.some (by omega)
    refine .inr ⟨_, rfl, fun j u hj => ?_⟩
    rw [addr_at]
    rw [List.getElem?_map] at hj
    cases hx : l[j]? with
    | none => rw [hx] at hj; simp at hj
    | some x => rw [hx] at hj; simp at hj; rw [← hj]; exact hc j x hx

theorem BSr.news {w : World} {a : Option Addr} {n cap : Nat} {l : Bs} (h : BSr w (.slice a n cap) l) : NewsB w a l := by
  rcases h with h | ⟨rfl, _⟩
  · exact h.news
  · exact .inl rfl

theorem OwnB.bsl {w : World} {v : Value} {l : Bs} (h : OwnB w v l) : BSl w v l := by
  rcases rows_val h with ⟨rfl, h0⟩ | ⟨g, cap, rfl, hc, _, hg⟩
  · exact .inl ⟨rfl, List.length_eq_zero_iff.1 h0⟩
  · refine .inr ⟨g, 0, cap, rfl, hc, ?_, hg, fun i u hi => ?_⟩
    · rcases h.2 with ⟨e, _⟩ | ⟨g', cap', cur, e, _, _, _, hcm, _⟩
      · cases e
      · cases e; exact hcm
    · rw [Nat.zero_add]
      exact (rows_cell h (mapGet (f := u8V) hi)).1

theorem u8_one (l : Bs) : ∀ u ∈ l.map u8V, u.oneCell' = true := by
  intro u hu
  obtain ⟨x, _, rfl⟩ := List.mem_map.1 hu
  rfl

/-- A byte of one's own row is written. -/
theorem OwnB.set {w : World} {g cap : Nat} {l : Bs} (h : OwnB w (.slice (some ⟨g, 0, none⟩) l.length cap) l) {k : Nat} (hk : k < l.length) (y : UInt8) : OwnB (w.setCell ⟨g, k, none⟩ (u8V y)) (.slice (some ⟨g, 0, none⟩) l.length cap) (l.set k y) := by
  obtain ⟨h1, h2 | ⟨g', c', cur, e, hb, hg, hn, hm, hs, ht⟩⟩ := h
  · cases h2.1
  · cases e
    have hc := heap_setCell_eq (off := k) (u8V y) hg
    have hcur : l.length ≤ cur.size := by rw [hs]; omega
    unfold OwnB
    rw [List.length_set]
    refine ⟨by simp, .inr ⟨g, cap, _, rfl, hb, hc, hn, hm, by simpa using hs, ?_⟩⟩
    rw [Nat.mul_one] at ht ⊢
    rw [Array.toList_setIfInBounds, List.take_set, ht, List.map_set]

section
variable {P : Program} {w : World} {ops : Array Oper} {rest : List Oper} {o : Oper} {a : Act} {Q : Exit → Act → World → Prop}
/-- 'append(x, b...)' of bytes, however many. -/
theorem law_append_wide (hg : o.guard = none) (s x : Operand) (t : TypeId) (ho : o.op = .call { callee := .builtin .append, args := #[s, x], argTypes := #[t, t] })
    {i : TypeInfo} (ht : P.underlying t = some (.slice 5)) (hi : P.info? 5 = some i) (hz : i.zero = some (.int .u8 0)) (hsize : i.size = 1) (hby : i.bytes = 1)
    {v : Value} {l m : Bs} (hs : a.eval s = v) (hown : OwnB w v l) {sa : Option Addr} {n c : Nat} (hx : a.eval x = .slice sa n c) (hn : m.length = n) (hnews : NewsB w sa m) (hl40 : l.length ≤ 1099511627776) (hlen : l.length + n ≤ 140737489355328)
    (hK : ∀ sa' cap' w', OwnB w' (.slice sa' (l ++ m).length cap') (l ++ m) → Keep w w' (fun b => some b = v.ownBlock) → wpList P ops Q rest (a.put o.dst (.slice sa' (l ++ m).length cap')) w') : wpList P ops Q (o :: rest) a w := by
  subst hn
  rcases hnews with h0 | ⟨ad, rfl, hc⟩
  · have hm : m = [] := List.length_eq_zero_iff.1 h0
    subst hm
    simp only [List.append_nil] at hK
    refine law_append_row hg s x t ho ht hi hz hsize (by omega) rfl (by decide) hs hown (m := 0) [] hx rfl (.inl rfl) (fun u hu => by simp at hu) hl40 ?_
    intro sa' cap' w' r1 r2 _
    simp only [Nat.add_zero, List.append_nil] at r1 ⊢
    exact hK sa' cap' w' r1 r2
  · refine wpList_append_own_wide w hg s x t ho 0 5 i (.int .u8 0) 1 1 ht hi hz hsize hby rfl (by decide) v l.length (l.map u8V) hs hown ad m.length c (m.map u8V) hx (by simp) hc (u8_one m) (by unfold maxLen; omega) (by omega) (Nat.zero_le _) ?_
    intro v' w' r1 r2 _
    obtain ⟨sa', cap', rfl, _⟩ := rows_val2 r1
    have e : l.length + m.length = (l ++ m).length := by simp
    rw [e] at r1 ⊢
    exact hK sa' cap' w' (rows_own r1 rfl (by simp)) (Keep.grown r2)
end

theorem OwnB.take {w : World} {g cap n : Nat} {l : Bs} (h : OwnB w (.slice (some ⟨g, 0, none⟩) n cap) l) {k : Nat} (hk : k ≤ l.length) : OwnB w (.slice (some ⟨g, 0, none⟩) k cap) (l.take k) := by
  obtain ⟨h1, h2 | ⟨g', c', cur, e, hb, hg, hn, hm, hs, ht⟩⟩ := h
  · cases h2.1
  · cases e
    have hl : (l.take k).length = k := by rw [List.length_take]; omega
    refine ⟨by simp, .inr ⟨g, cap, cur, by rw [hl], hb, hg, by omega, hm, hs, ?_⟩⟩
    rw [hl, Nat.mul_one]
    have h3 := congrArg (List.take k) ht
    rw [Nat.mul_one, List.take_take, Nat.min_eq_left hk] at h3
    rw [h3, List.map_take]

set_option maxHeartbeats 8000000 in
theorem creads_walk (a0 : Option Addr) (len0 cap0 : Nat) (z0 : List Int) (cc1 : CallV) (a : Option Addr) (cap : Nat) (at0 turn : Int) (W : World) (ht : Tabs W) (hb0 : RowIs W a0 len0 cap0 z0) (h0 : BSr W (.slice a cc1.data.length cap) cc1.data ∧ (cc1.path.size ≤ 9223372036854775807 ∧ cc1.to.size ≤ 9223372036854775807 ∧ cc1.data.length ≤ 9223372036854775807) ∧ ∀ x : Fin 5, -9223372036854775808 ≤ cc1.num x.val ∧ cc1.num x.val ≤ 9223372036854775807) (hat : (Lit.int .i64 at0).wf = true) (htu : (Lit.int .u8 turn).wf = true) (hsz : len0 ≤ 140737488351232) :
    Calls Tryd.prog 3 #[.slice a0 len0 cap0, callA cc1 (.slice a cc1.data.length cap), .int .i64 at0, .int .u8 turn] W fun r w' => r = .returned (.bool true) ∧ Below W.heap.size W w' := by
  obtain ⟨b, hbl, hbm, hbr⟩ := bsr_of_row hb0
  have htb := bounds_u8 htu
  unfold maxLen at hbm
  obtain ⟨W1, hW1⟩ : ∃ W1, W1 = W.alloc (.cells (callC cc1 (.slice a cc1.data.length cap)).toArray 24) := ⟨_, rfl⟩
  have k1 := Keep.alloc W (.cells (callC cc1 (.slice a cc1.data.length cap)).toArray 24) (fun _ => False)
  have b1 := heap_alloc_eq W (.cells (callC cc1 (.slice a cc1.data.length cap)).toArray 24)
  rw [← hW1] at k1 b1
  have hs := renc_c cc1 a cap (h0.1.aside k1) h0.2.1
  have HB := Lib.hid (And.intro hbr hbl)
  have HT := Lib.hid ht
  simp only [callC] at hW1 b1
  have d0 := cell_blk b1 0
  have d1 := cell_blk b1 1
  have d2 := cell_blk b1 2
  have d3 := cell_blk b1 3
  have d4 := cell_blk b1 4
  have d5 := cell_blk b1 5
  have d6 := cell_blk b1 6
  have d7 := cell_blk b1 7
  have d8 := cell_blk b1 8
  simp only [List.getElem?_toArray, List.getElem?_cons_zero, List.getElem?_cons_succ] at d0 d1 d2 d3 d4 d5 d6 d7 d8
  unfold callA at hs ⊢
  have K1 := Lib.hid k1
  obtain ⟨R, hR⟩ : ∃ R, R = cc1.right := ⟨_, rfl⟩
  obtain ⟨B, hB⟩ : ∃ B, B = (if cc1.right = 0 then cc1.enc else []) := ⟨_, rfl⟩
  have hEl : B.length ≤ 600000 := by
    rw [hB]
    split
    · rename_i h
      have hf := CallV.fits_of h
      have := enc_length cc1
      have := hf.path
      have := hf.to
      have := hf.data
      omega
    · simp
  rw [← hB, ← hR] at hs
  clear hB hR hbr hb0 hbl h0 k1 b1 ht
  go_enter Tryd.func3, Tryd.ntmps3
  go_upto_region 1 with (fail)
  rw [← hW1]
  clear hW1
  go_upto_region 2 with (
    go_at_call 9
    refine hs.mono ?_
    rintro e w1 ⟨v1, rfl, q1, q2, q3⟩
    obtain ⟨ax, nx, capx, rfl, rfl⟩ := q1.val
    have N1 := Lib.hid (And.intro q1 (And.intro (K1.out.trans q2 (fun _ q => q.elim)) (show ∀ b, (Value.slice ax B.length capx).ownBlock = some b → W.heap.size ≤ b from fun b q => Nat.le_trans K1.out.size (q3 b q))))
    clear hs q1 q2 q3)
  go_cut [30] from 24 (fun s wc => s = .bool (decide (R = 0 ∧ 0 < B.length)) ∧ w1 = wc)
  case first =>
    by_cases h1 : R = 0
    · by_cases h2 : 0 < B.length
      · have g1 : (R == 0) = true := by rw [h1]; rfl
        have g2 : (0 : Int) < (B.length : Int) := by omega
        have HEE := Lib.hid (And.intro (show decide (R = 0 ∧ 0 < B.length) = true by simp [h1, h2]) h2)
        clear h1 h2
        go_wp2
        go_meet
        case rel => exact ⟨by rw [HEE.out.1]; first | rfl | rw [decide_eq_true HEE.out.2], rfl⟩
      · have g1 : (R == 0) = true := by rw [h1]; rfl
        have g2 : ¬ (0 : Int) < (B.length : Int) := by omega
        have HEE := Lib.hid (And.intro (show decide (R = 0 ∧ 0 < B.length) = false by simp [h2]) h2)
        clear h1 h2
        go_wp2
        go_meet
        case rel => exact ⟨by rw [HEE.out.1]; first | rfl | rw [decide_eq_false HEE.out.2], rfl⟩
    · have g1 : (R == 0) = false := by simpa using h1
      have e : decide (R = 0 ∧ 0 < B.length) = false := by simp [h1]
      have HEE := Lib.hid e
      clear h1 e
      go_wp2
      go_meet
      case rel => exact ⟨by rw [HEE.out], rfl⟩
  case rest =>
    obtain ⟨rfl, rfl⟩ := hcut
    go_upto_if 30 with (fail)
    go_cut [0] from 24 (fun s wc => ∃ c : Bs, BSr wc s c ∧ c.length ≤ 140737489351232 ∧ Keep W wc (fun _ => False))
    case first =>
      by_cases h : R = 0 ∧ 0 < B.length
      · have hB0 := h.2
        rw [decide_eq_true h]
        clear h
        obtain ⟨g, rfl, -, hcapx, hgl⟩ := rows_some N1.out.1 hB0
        have hw : IntKind.i64.wrap ((B.length : Int) - 1) = (B.length : Int) - 1 := IntWalk.i64_in _ (by omega)
        obtain ⟨ti, ti1, ti2, ti3, ti4⟩ := u8_info
        have HI := Lib.hid (And.intro ti1 (And.intro ti2 (And.intro ti3 ti4)))
        clear ti1 ti2 ti3 ti4
        have hwi := within_c w1 at0 0 ((B.length : Int) - 1) (Int.le_refl _) (by omega) (by omega)
        have hat3 : at0.tmod 3 = 0 ∨ ¬ at0.tmod 3 = 0 := by omega
        go_upto_if 47 with (first
          | (go_at_call 10
             refine hwi.mono ?_
             rintro e w2 ⟨m, hm0, hm1, rfl, rfl⟩
             obtain ⟨k, rfl⟩ : ∃ k : Nat, m = (k : Int) := ⟨m.toNat, by omega⟩
             have hkB : k < B.length := by omega
             have hk2 : (k : Int) < (B.length : Int) := by omega
             obtain ⟨x, hx⟩ : ∃ x, B[k]? = some x := ⟨_, List.getElem?_eq_getElem hkB⟩
             obtain ⟨c0, f0⟩ := rows_cell N1.out.1 (mapGet (f := u8V) hx)
             unfold u8V at c0
             have hxl := byte_lt x
             obtain ⟨y, hy⟩ : ∃ y : UInt8, Value.int .u8 (bits .xor .u8 (x.toNat : Int) turn) = u8V y := by
               have h1 := bounds_u8 (wf_bits .xor .u8 (x.toNat : Int) turn)
               refine ⟨UInt8.ofNat (bits .xor .u8 (x.toNat : Int) turn).toNat, ?_⟩
               unfold u8V
               congr 1
               simp
               omega
             have hOS := OwnB.set N1.out.1 hkB y
             have hKS : Keep W (w1.setCell ⟨g, k, none⟩ (u8V y)) (fun _ => False) := N1.out.2.1.trans (Keep.setCell w1 ⟨g, k, none⟩ (u8V y)) (fun b q => .inr (by have := N1.out.2.2 g rfl; rw [show b = g from q]; exact this))
             rw [← hy] at hOS hKS
             have NS := Lib.hid (And.intro hOS (And.intro hKS (show (B.set k y).length = B.length from List.length_set ..)))
             clear hwi hOS hKS hy hx))
        rcases hat3 with hat3 | hat3
        · have ge : (at0.tmod 3 == 0) = true := by simp [hat3]
          have hk3 : (k : Int) ≤ (capx : Int) := by have := hcapx; omega
          have hk4 : k ≤ capx := by have := hcapx; omega
          have htk : ((B.set k y).take k).length = k := by rw [List.length_take, NS.out.2.2]; omega
          have NT := Lib.hid (And.intro (NS.out.1.take (k := k) (by rw [NS.out.2.2]; omega)) htk)
          go_wp2_with (
            at_builtin
            refine law_append_wide rfl _ _ _ rfl Tryd.underlying22 HI.out.1 HI.out.2.1 HI.out.2.2.1 HI.out.2.2.2 rfl NT.out.1 rfl HB.out.2 (HB.out.1.aside NS.out.2.1).news (by rw [NT.out.2]; omega) (by rw [NT.out.2]; omega) ?_
            intro sa3 cap3 w3 r1 r2
            have N3 := Lib.hid (And.intro (show BSr w3 (.slice sa3 ((B.set k y).take k ++ b).length cap3) ((B.set k y).take k ++ b) from .inl (own_bsl r1)) (NS.out.2.1.trans r2 (fun b q => .inr (N1.out.2.2 b q.symm))))
            clear r1 r2)
          go_meet
          case rel => exact ⟨(B.set k y).take k ++ b, by have h := N3.out.1; rw [List.length_append, htk] at h; exact h, by rw [List.length_append, htk, HB.out.2]; omega, N3.out.2⟩
        · have ge : (at0.tmod 3 == 0) = false := by simp [hat3]
          go_wp2_with (
            at_builtin
            refine law_append_wide rfl _ _ _ rfl Tryd.underlying22 HI.out.1 HI.out.2.1 HI.out.2.2.1 HI.out.2.2.2 rfl NS.out.1 rfl HB.out.2 (HB.out.1.aside NS.out.2.1).news (by rw [NS.out.2.2]; omega) (by rw [NS.out.2.2]; omega) ?_
            intro sa3 cap3 w3 r1 r2
            have N3 := Lib.hid (And.intro (show BSr w3 (.slice sa3 (B.set k y ++ b).length cap3) (B.set k y ++ b) from .inl (own_bsl r1)) (NS.out.2.1.trans r2 (fun b q => .inr (N1.out.2.2 b q.symm))))
            clear r1 r2)
          go_meet
          case rel => exact ⟨B.set k y ++ b, by simpa using N3.out.1, by rw [List.length_append, NS.out.2.2, HB.out.2]; omega, N3.out.2⟩
      · rw [decide_eq_false h]
        go_wp2
        go_meet
        case rel => exact ⟨b, HB.out.1.aside N1.out.2.1, by rw [HB.out.2]; omega, N1.out.2.1⟩
    case rest =>
      obtain ⟨c, hc, hcl, hK⟩ := hcut
      obtain ⟨w3, hw3⟩ : ∃ w3, w3 = wc := ⟨_, rfl⟩
      subst hw3
      obtain ⟨ac, cc, rfl, hlc', hmc⟩ := hc.shape
      unfold maxLen at hmc
      obtain ⟨dc, dn, de, hdec⟩ : ∃ dc dn de, decC c = (dc, dn, de) := ⟨_, _, _, rfl⟩
      have hro := roomy_c hc (by omega)
      have HC := Lib.hid (And.intro hc hK)
      have g1 : (c.length : Int) ≤ (c.length : Int) + 80 := by omega
      have HD := Lib.hid hdec
      clear hc hK hdec
      go_wp2_with (first
        | (go_at_call 11
           refine hro.mono ?_
           rintro e w4 ⟨rfl, h1, h2⟩
           have hd1 := odec_c (gf_bsl h1 (by omega))
           rw [HD.out] at hd1
           simp only [callA] at hd1
           have N4 := Lib.hid (And.intro h1 h2)
           clear h1 h2 hro)
        | (go_at_call 12
           with_reducible refine hd1.mono ?_
           rintro e w5 ⟨a5, cap5, rfl, q1, q2, -⟩
           have k5 := Keep.alloc w5 (.cells (callC dc (.slice a5 dc.data.length cap5)).toArray 24) (fun _ => False)
           have b5 := heap_alloc_eq w5 (.cells (callC dc (.slice a5 dc.data.length cap5)).toArray 24)
           have hd2 := rdec_r (HC.out.1.aside ((N4.out.2.trans q2 (fun _ q => q.elim)).trans k5 (fun _ q => q.elim)))
           rw [HD.out] at hd2
           simp only [callA, callC] at hd2 k5 b5
           have N5 := Lib.hid (And.intro (q1.aside k5) (And.intro ((N4.out.2.trans q2 (fun _ q => q.elim)).trans k5 (fun _ q => q.elim)) (And.intro b5 (q2.trans k5 (fun _ q => q.elim)))))
           clear q1 q2 hd1 k5 b5)
        | (go_at_call 13
           with_reducible refine hd2.mono ?_
           rintro e w6 ⟨a6, cap6, rfl, q1, q2, -⟩
           have k6 := Keep.alloc w6 (.cells (callC dc (.slice a6 dc.data.length cap6)).toArray 24) (fun _ => False)
           have b6 := heap_alloc_eq w6 (.cells (callC dc (.slice a6 dc.data.length cap6)).toArray 24)
           have kk := q2.trans k6 (fun _ q => q.elim)
           have hki := kcall_c (c := dc) (.inl (N5.out.1.aside kk)) (.inl (q1.aside k6))
           simp only [callA, callC] at hki k6 b6 kk
           have b5 := kk.get N5.out.2.2.1 (fun q => q)
           have m0 := cell_blk b5 0
           have t0 := cell_blk b6 0
           have m1 := cell_blk b5 1
           have t1 := cell_blk b6 1
           have m2 := cell_blk b5 2
           have t2 := cell_blk b6 2
           have m3 := cell_blk b5 3
           have t3 := cell_blk b6 3
           have m4 := cell_blk b5 4
           have t4 := cell_blk b6 4
           have m5 := cell_blk b5 5
           have t5 := cell_blk b6 5
           have m6 := cell_blk b5 6
           have t6 := cell_blk b6 6
           have m7 := cell_blk b5 7
           have t7 := cell_blk b6 7
           have m8 := cell_blk b5 8
           have t8 := cell_blk b6 8
           simp only [List.getElem?_toArray, List.getElem?_cons_zero, List.getElem?_cons_succ] at m0 t0 m1 t1 m2 t2 m3 t3 m4 t4 m5 t5 m6 t6 m7 t7 m8 t8
           have N6 := Lib.hid (And.intro (N5.out.2.1.trans kk (fun _ q => q.elim)) (N5.out.2.2.2.trans kk (fun _ q => q.elim)))
           clear q1 q2 hd2 k6 b6 kk b5)
        | (go_at_call 14
           with_reducible refine hki.mono ?_
           rintro e w7 ⟨rfl, k7⟩
           have K7 := N6.out.1.trans k7 (fun _ q => q.elim)
           have K8 := N6.out.2.trans k7 (fun _ q => q.elim)
           have hin := intact_c (K8.get N4.out.1 (fun q => q)) (HC.out.1.aside K7) (by omega)
           have N7 := Lib.hid (HC.out.2.trans K7 (fun _ q => q.elim))
           clear hki k7 K7 K8)
        | (go_at_call 15
           refine hin.mono ?_
           rintro e w8 ⟨rfl, k8⟩
           have N8 := Lib.hid (N7.out.trans k8 (fun _ q => q.elim))
           clear hin k8)
        | (go_at_call 16
           refine (known_c _ (HT.out.keep N8.out)).mono ?_
           rintro e w9 ⟨rfl, k9⟩))
      go_ret
      exact ⟨rfl, Keep.below (N8.out.trans k9 (fun _ q => q.elim)) (Nat.le_refl _) (fun b q => q.elim)⟩

end Go.Proofs.YtdbkkfhneafeiaaDoor
