/-
  ScriptReads: every row of bytes is read as the document says.
-/
import Derived.Test.YtmokbgihpfnmbaaRSDec
import Derived.Test.YtmokbgihpfnmbaaRSEnc
import Derived.Test.YtmokbgihpfnmbaaRoomy
import Derived.Test.YtmokbgihpfnmbaaWithin
import Derived.Deep.DeepAppendWide
import Derived.Below
import Derived.OpenShut
import Derived.Deep.Cut
namespace Go.Proofs.Ytmokbgihpfnmbaa
open Go Go.RowKit
set_option linter.unusedSectionVars false
set_option linter.unusedSimpArgs false
set_option linter.unusedVariables false

theorem enc_sum2 {L : List ItemV} (hr : ∀ i ∈ L, i.right = 0) : (L.flatMap ItemV.enc).length ≤ L.length * 20000 := by
  induction L with
  | nil => simp
  | cons i M ih =>
    rw [List.flatMap_cons, List.length_append, List.length_cons]
    have := ih (fun j hj => hr j (List.mem_cons_of_mem _ hj))
    have := enc_len (hr i (List.mem_cons_self ..))
    omega

theorem encL_nil (l : List ItemV) : ∀ acc, (encL acc l).2 ≠ 0 → (encL acc l).1 = [] := by
  induction l with
  | nil => intro acc h; exact absurd rfl h
  | cons i l ih =>
    intro acc h
    rw [encL] at h ⊢
    split
    · rename_i h1; rw [if_pos h1] at h; exact ih _ h
    · rfl

theorem encS_nil {L : List ItemV} (h : (encS L).2 ≠ 0) : (encS L).1 = [] := by
  unfold encS at h ⊢
  split
  · rfl
  · rename_i h1; rw [if_neg h1] at h; exact encL_nil _ _ h

/-- A byte of one's own row is written. -/
theorem OwnB.set {w : World} {g cap : Nat} {l : Bs} (h : OwnB w (.slice (some ⟨g, 0, none⟩) l.length cap) l) {k : Nat} (hk : k < l.length) (y : UInt8) : OwnB (w.setCell ⟨g, k, none⟩ (u8V y)) (.slice (some ⟨g, 0, none⟩) l.length cap) (l.set k y) := by
  obtain ⟨h1, h2 | ⟨g', c', cur, e, hb, hg, hn, hm, hs, ht⟩⟩ := h
  · cases h2.1
  · cases e
    have hc := heap_setCell_eq (off := k) (u8V y) hg
    have hcur : l.length ≤ cur.size := by rw [hs]; omega
    unfold OwnB
    rw [List.length_set]
    refine ⟨by simp, .inr ⟨g, cap, _, rfl, hb, hc, hn, hm, by simpa using hs, ?_⟩⟩
    rw [Nat.mul_one] at ht ⊢
    rw [Array.toList_setIfInBounds, List.take_set, ht, List.map_set]

section
variable {P : Program} {w : World} {ops : Array Oper} {rest : List Oper} {o : Oper} {a : Act} {Q : Exit → Act → World → Prop}
/-- 'append(x, b...)' of bytes, however many. -/
theorem law_append_wide (hg : o.guard = none) (s x : Operand) (t : TypeId) (ho : o.op = .call { callee := .builtin .append, args := #[s, x], argTypes := #[t, t] })
    {i : TypeInfo} (ht : P.underlying t = some (.slice 5)) (hi : P.info? 5 = some i) (hz : i.zero = some (.int .u8 0)) (hsize : i.size = 1) (hby : i.bytes = 1)
    {v : Value} {l m : Bs} (hs : a.eval s = v) (hown : OwnB w v l) {sa : Option Addr} {n c : Nat} (hx : a.eval x = .slice sa n c) (hn : m.length = n) (hnews : NewsB w sa m) (hl40 : l.length ≤ 1099511627776) (hlen : l.length + n ≤ 140737489355328)
    (hK : ∀ sa' cap' w', OwnB w' (.slice sa' (l ++ m).length cap') (l ++ m) → Keep w w' (fun b => some b = v.ownBlock) → wpList P ops Q rest (a.put o.dst (.slice sa' (l ++ m).length cap')) w') : wpList P ops Q (o :: rest) a w := by
  subst hn
  rcases hnews with h0 | ⟨ad, rfl, hc⟩
  · have hm : m = [] := List.length_eq_zero_iff.1 h0
    subst hm
    simp only [List.append_nil] at hK
    refine law_append_row hg s x t ho ht hi hz hsize (by omega) rfl (by decide) hs hown (m := 0) [] hx rfl (.inl rfl) (fun u hu => by simp at hu) hl40 ?_
    intro sa' cap' w' r1 r2 _
    simp only [Nat.add_zero, List.append_nil] at r1 ⊢
    exact hK sa' cap' w' r1 r2
  · refine wpList_append_own_wide w hg s x t ho 0 5 i (.int .u8 0) 1 1 ht hi hz hsize hby rfl (by decide) v l.length (l.map u8V) hs hown ad m.length c (m.map u8V) hx (by simp) hc (u8_one m) (by unfold maxLen; omega) (by omega) (Nat.zero_le _) ?_
    intro v' w' r1 r2 _
    obtain ⟨sa', cap', rfl, _⟩ := rows_val2 r1
    have e : l.length + m.length = (l ++ m).length := by simp
    rw [e] at r1 ⊢
    exact hK sa' cap' w' (rows_own r1 rfl (by simp)) (Keep.grown r2)
end

set_option maxRecDepth 100000 in
set_option maxHeartbeats 8000000 in
theorem reads_walk (a0 : Option Addr) (len0 cap0 : Nat) (z0 : List Int) (a : Option Addr) (len cap : Nat) (at0 turn : Int) (W : World) (hb0 : RowIs W a0 len0 cap0 z0) (h0 : ∃ L, ItemsIn W (.slice a len cap) L ∧ L.length = len ∧ ∀ i ∈ L, Lens i) (hat : (Lit.int .i64 at0).wf = true) (htu : (Lit.int .u8 turn).wf = true) (hsz : len0 ≤ 140737488351232) :
    Calls Try.prog 3 #[.slice a0 len0 cap0, .slice a len cap, .int .i64 at0, .int .u8 turn] W fun r w' => r = .returned (.bool true) ∧ Below W.heap.size W w' := by
  obtain ⟨L0, hI, hlen, hlens⟩ := h0
  obtain ⟨b, hbl, hbm, hbr⟩ := bsr_of_row hb0
  have htb := bounds_u8 htu
  obtain ⟨_, _, hv, hlc, hcm⟩ := hI.val
  simp only [Value.slice.injEq] at hv
  obtain ⟨-, -, rfl⟩ := hv
  rw [hlen] at hlc
  unfold maxLen at hcm hbm
  obtain ⟨L, hL⟩ : ∃ L, L = L0.take 30 := ⟨_, rfl⟩
  have hn : L.length = min len 30 := by rw [hL, List.length_take]; omega
  have hIt : ItemsIn W (.slice a L.length cap) L := by
    have h := hI.take (j := L.length) (by omega)
    have e : L0.take L.length = L0.take 30 := by rw [List.take_eq_take_iff]; omega
    rw [e, ← hL] at h
    exact h
  have hl30 : L.length ≤ 30 := by omega
  have hlc2 : L.length ≤ cap := by omega
  have hs := rsenc_c hIt (fun i hi => hlens i (by rw [hL] at hi; exact List.mem_of_mem_take hi))
  have H := Lib.hid hIt
  have HB := Lib.hid (And.intro hbr hbl)
  have Hn := Lib.hid hn
  clear hI hlens hL hIt hlen hn hbr hb0 hbl
  go_enter Try.func3, Try.ntmps3
  go_upto_if 15 with (fail)
  go_cut [1] from 13 (fun s wc => s = .slice a L.length cap ∧ W = wc)
  case first =>
    by_cases h5 : 30 < len
    all_goals
      go_wp2
      go_meet
      case rel => exact ⟨by rw [Hn.out]; congr 1; omega, rfl⟩
  case rest =>
    obtain ⟨rfl, rfl⟩ := hcut
    obtain ⟨E, hE⟩ : ∃ E, E = encS L := ⟨_, rfl⟩
    rw [← hE] at hs
    have HE := Lib.hid hE
    clear hE
    have hEl : E.1.length ≤ 600000 := by
      by_cases hz : E.2 = 0
      · have hEB : encS L = (E.1, 0) := by rw [← HE.out, ← hz]
        obtain ⟨_, hright, hB⟩ := encS_inv hEB
        rw [hB]
        have := enc_sum2 hright
        omega
      · have h := encS_nil (L := L) (by rw [← HE.out]; exact hz)
        rw [HE.out, h]
        exact Nat.zero_le _
    obtain ⟨B, hB⟩ : ∃ B, B = E.1 := ⟨_, rfl⟩
    obtain ⟨R, hR⟩ : ∃ R, R = E.2 := ⟨_, rfl⟩
    rw [← hB, ← hR] at hs
    rw [← hB] at hEl
    clear hB hR
    go_upto_region 4 with (
      go_at_call 9
      refine hs.mono ?_
      rintro e w1 ⟨v1, rfl, q1, q2, q3⟩
      obtain ⟨ax, nx, capx, rfl, rfl⟩ := q1.val
      have N1 := Lib.hid (And.intro q1 (And.intro q2 q3))
      clear hs q1 q2 q3)
    go_cut [29] from 23 (fun s wc => s = .bool (decide (R = 0 ∧ 0 < B.length)) ∧ w1 = wc)
    case first =>
      by_cases h1 : R = 0
      · by_cases h2 : 0 < B.length
        · have g1 : (R == 0) = true := by rw [h1]; rfl
          have g2 : (0 : Int) < (B.length : Int) := by omega
          have HEE := Lib.hid (And.intro (show decide (R = 0 ∧ 0 < B.length) = true by simp [h1, h2]) h2)
          clear h1 h2
          go_wp2
          go_meet
          case rel => exact ⟨by rw [HEE.out.1]; first | rfl | rw [decide_eq_true HEE.out.2], rfl⟩
        · have g1 : (R == 0) = true := by rw [h1]; rfl
          have g2 : ¬ (0 : Int) < (B.length : Int) := by omega
          have HEE := Lib.hid (And.intro (show decide (R = 0 ∧ 0 < B.length) = false by simp [h2]) h2)
          clear h1 h2
          go_wp2
          go_meet
          case rel => exact ⟨by rw [HEE.out.1]; first | rfl | rw [decide_eq_false HEE.out.2], rfl⟩
      · have g1 : (R == 0) = false := by simpa using h1
        have e : decide (R = 0 ∧ 0 < B.length) = false := by simp [h1]
        have HEE := Lib.hid e
        clear h1 e
        go_wp2
        go_meet
        case rel => exact ⟨by rw [HEE.out], rfl⟩
    case rest =>
      obtain ⟨rfl, rfl⟩ := hcut
      go_upto_if 29 with (fail)
      go_cut [0] from 29 (fun s wc => ∃ c : Bs, BSr wc s c ∧ c.length ≤ 140737489351232 ∧ Keep W wc (fun _ => False))
      case first =>
        by_cases h : R = 0 ∧ 0 < B.length
        · have hB0 := h.2
          rw [decide_eq_true h]
          clear h
          obtain ⟨g, rfl, -, -, hgl⟩ := rows_some N1.out.1 hB0
          have hw : IntKind.i64.wrap ((B.length : Int) - 1) = (B.length : Int) - 1 := IntWalk.i64_in _ (by omega)
          obtain ⟨ti, ti1, ti2, ti3, ti4⟩ := u8_info
          have HI := Lib.hid (And.intro ti1 (And.intro ti2 (And.intro ti3 ti4)))
          clear ti1 ti2 ti3 ti4
          have hwi := within_c w1 at0 0 ((B.length : Int) - 1) (Int.le_refl _) (by omega) (by omega)
          go_wp2_with (first
            | (go_at_call 10
               refine hwi.mono ?_
               rintro e w2 ⟨m, hm0, hm1, rfl, rfl⟩
               obtain ⟨k, rfl⟩ : ∃ k : Nat, m = (k : Int) := ⟨m.toNat, by omega⟩
               have hkB : k < B.length := by omega
               have hk2 : (k : Int) < (B.length : Int) := by omega
               obtain ⟨x, hx⟩ : ∃ x, B[k]? = some x := ⟨_, List.getElem?_eq_getElem hkB⟩
               obtain ⟨c0, f0⟩ := rows_cell N1.out.1 (mapGet (f := u8V) hx)
               unfold u8V at c0
               have hxl := byte_lt x
               obtain ⟨y, hy⟩ : ∃ y : UInt8, Value.int .u8 (bits .xor .u8 (x.toNat : Int) turn) = u8V y := by
                 have h1 := bounds_u8 (wf_bits .xor .u8 (x.toNat : Int) turn)
                 refine ⟨UInt8.ofNat (bits .xor .u8 (x.toNat : Int) turn).toNat, ?_⟩
                 unfold u8V
                 congr 1
                 simp
                 omega
               have hOS := OwnB.set N1.out.1 hkB y
               have hKS : Keep W (w1.setCell ⟨g, k, none⟩ (u8V y)) (fun _ => False) := N1.out.2.1.trans (Keep.setCell w1 ⟨g, k, none⟩ (u8V y)) (fun b q => .inr (by have := N1.out.2.2 g rfl; rw [show b = g from q]; exact this))
               rw [← hy] at hOS hKS
               have NS := Lib.hid (And.intro hOS (And.intro hKS (show (B.set k y).length = B.length from List.length_set ..)))
               clear hwi hOS hKS hy hx)
            | (at_builtin
               refine law_append_wide rfl _ _ _ rfl Try.underlying22 HI.out.1 HI.out.2.1 HI.out.2.2.1 HI.out.2.2.2 rfl NS.out.1 rfl HB.out.2 (HB.out.1.aside NS.out.2.1).news (by rw [NS.out.2.2]; omega) (by rw [NS.out.2.2]; omega) ?_
               intro sa3 cap3 w3 r1 r2
               have N3 := Lib.hid (And.intro (show BSr w3 (.slice sa3 (B.set k y ++ b).length cap3) (B.set k y ++ b) from .inl r1.bsl) (NS.out.2.1.trans r2 (fun b q => .inr (N1.out.2.2 b q.symm))))
               clear r1 r2))
          go_meet
          case rel => exact ⟨B.set k y ++ b, by simpa using N3.out.1, by rw [List.length_append, NS.out.2.2, HB.out.2]; omega, N3.out.2⟩
        · rw [decide_eq_false h]
          go_wp2
          go_meet
          case rel => exact ⟨b, HB.out.1.aside N1.out.2.1, by rw [HB.out.2]; omega, N1.out.2.1⟩
      case rest =>
        obtain ⟨c, hc, hcl, hK⟩ := hcut
        obtain ⟨w3, hw3⟩ : ∃ w3, w3 = wc := ⟨_, rfl⟩
        subst hw3
        obtain ⟨ac, cc, rfl, hlc', hmc⟩ := hc.shape
        unfold maxLen at hmc
        have hro := roomy_c hc (by omega)
        have HC := Lib.hid (And.intro hc hK)
        have g1 : (c.length : Int) ≤ (c.length : Int) + 80 := by omega
        clear hc hK
        go_wp2_with (first
          | (go_at_call 11
             refine hro.mono ?_
             rintro e w4 ⟨rfl, h1, h2⟩
             have hd1 := sdec_c (gf_bsl h1 (by omega))
             have N4 := Lib.hid (And.intro h1 h2)
             clear h1 h2 hro)
          | (go_at_call 13
             refine hd1.mono ?_
             rintro e w5 ⟨u5, rfl, q1, q2⟩
             have hd2 := rsdec_r (HC.out.1.aside (N4.out.2.trans q2 (fun _ q => q.elim)))
             have N5 := Lib.hid (And.intro q1 q2)
             obtain ⟨a5, cap5, rfl, -, -⟩ := q1.val
             clear q1 q2 hd1)
          | (go_at_call 14
             refine hd2.mono ?_
             rintro e w6 ⟨u6, rfl, q1, q2⟩
             have hki := kitems_c (N5.out.1.aside q2) q1
             have N6 := Lib.hid (N5.out.2.trans q2 (fun _ q => q.elim))
             obtain ⟨a6, cap6, rfl, -, -⟩ := q1.val
             clear q1 q2 hd2)
          | (go_at_call 12
             refine hki.mono ?_
             rintro e w7 ⟨rfl, k7⟩
             have K7 := N6.out.trans k7 (fun _ q => q.elim)
             have hin := intact_c (K7.get N4.out.1 (fun q => q)) (HC.out.1.aside (N4.out.2.trans K7 (fun _ q => q.elim))) (by omega)
             have N7 := Lib.hid (HC.out.2.trans (N4.out.2.trans K7 (fun _ q => q.elim)) (fun _ q => q.elim))
             clear hki k7 K7)
          | (go_at_call 15
             refine hin.mono ?_
             rintro e w8 ⟨rfl, k8⟩
             clear hin)
          | (go_at_call 16
             refine (known_c _).mono ?_
             rintro e w9 ⟨rfl, k9⟩))
        go_ret
        exact ⟨rfl, Keep.below (N7.out.trans (k8.trans k9 (fun _ q => q.elim)) (fun _ q => q.elim)) (Nat.le_refl _) (fun b q => q.elim)⟩

end Go.Proofs.Ytmokbgihpfnmbaa
