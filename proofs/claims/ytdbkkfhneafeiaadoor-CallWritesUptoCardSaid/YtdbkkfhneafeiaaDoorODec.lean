/-
  The program's Decode of a call.
-/
import Derived.Test.YtdbkkfhneafeiaaDoorODec0
import Derived.Test.YtdbkkfhneafeiaaDoorRDec
import Derived.Test.YtdbkkfhneafeiaaDoorRoundR
import Derived.Deep.CutRange
import Derived.Deep.CutBlock
import Derived.Deep.DeepCutAuto
namespace Go.Proofs.YtdbkkfhneafeiaaDoor
open Go Go.RowKit Go.Shelf
set_option linter.unusedSectionVars false
set_option linter.unusedSimpArgs false
set_option linter.unusedVariables false
set_option maxRecDepth 100000
attribute [local go_sem] Oper.semAt_some

set_option maxRecDepth 100000 in
set_option maxHeartbeats 8000000 in
theorem odec_r {w : World} {v : Value} {b : Bs} (hb : BSr w v b) :
    Calls Tryd.prog 12 #[v] w fun r w' => ∃ a cap, r = .returned (.tuple #[callA (decC b).1 (.slice a (decC b).1.data.length cap), .int .i64 (decC b).2.1, .int .i64 (decC b).2.2]) ∧ BSl w' (.slice a (decC b).1.data.length cap) (decC b).1.data ∧ Keep w w' (fun _ => False) ∧ ∀ x, (Value.slice a (decC b).1.data.length cap).ownBlock = some x → w.heap.size ≤ x := by
  have hv : b ≠ [] → ∀ x, v.ownBlock = some x → x < w.heap.size := fun h0 => (hb.bsl h0).lt
  obtain ⟨a0, cap0, hv0, _⟩ := hb.valr
  subst hv0
  generalize hbl : b.length = bl at *
  have HB := Lib.hid hb
  have HV := Lib.hid hv
  clear hb hv hbl
  refine calls_marks Tryd.func12 rfl ?_
  simp only [Tryd.ntmps12, List.size_toArray, List.length_cons, List.length_nil, Nat.reduceAdd, Nat.reduceSub, Array.replicate_succ, Array.replicate_zero, List.push_toArray, List.append_toArray, List.nil_append, List.cons_append]
  go_wp2_with fail
  obtain ⟨wa, hwa⟩ : ∃ wa, wa = (((w.alloc (.cells #[.int .i64 0, .string { data := #[] }, .string { data := #[] }, .int .i64 0, .int .i64 0, .int .i64 0, .int .i64 0, .int .i64 0, .slice none 0 0] 24)).alloc (.cells #[.slice a0 bl cap0, .int .i64 0, .bool false] 57)).alloc (.cells #[.pointer (some ⟨w.heap.size + 1, 0, none⟩)] 55)) := ⟨_, rfl⟩
  rw [← hwa]
  have P0 : Keep w wa (fun _ => False) ∧ OrS wa (w.heap.size + 1) (.slice a0 bl cap0) b (some 0) ∧ wa.heap[w.heap.size]? = some (.cells (callC CallV.none (.slice none 0 0)).toArray 24 (0, 0)) ∧ wa.heap[w.heap.size + 1 + 1]? = some (.cells #[.pointer (some ⟨w.heap.size + 1, 0, none⟩)] 55 (0, 0)) ∧ wa.heap.size = w.heap.size + 1 + 1 + 1 := by
    rw [hwa]
    clear hwa
    obtain ⟨o1, ho1⟩ : ∃ o, o = Obj.cells #[.int .i64 0, .string { data := #[] }, .string { data := #[] }, .int .i64 0, .int .i64 0, .int .i64 0, .int .i64 0, .int .i64 0, .slice none 0 0] 24 := ⟨_, rfl⟩
    rw [← ho1]
    have ho2 : o1 = .cells (callC CallV.none (.slice none 0 0)).toArray 24 (0, 0) := ho1
    have k1 := Keep.alloc w o1 (fun _ => False)
    have g1 := heap_alloc_eq w o1
    have z1 : (w.alloc o1).heap.size = w.heap.size + 1 := by simp
    generalize w.alloc o1 = w1 at *
    have k2 := Keep.alloc w1 (.cells #[.slice a0 bl cap0, .int .i64 0, .bool false] 57) (fun _ => False)
    have g2 := heap_alloc_eq w1 (.cells #[.slice a0 bl cap0, .int .i64 0, .bool false] 57)
    have z2 : (w1.alloc (.cells #[.slice a0 bl cap0, .int .i64 0, .bool false] 57)).heap.size = w1.heap.size + 1 := by simp
    generalize w1.alloc (.cells #[.slice a0 bl cap0, .int .i64 0, .bool false] 57) = w2 at *
    have k3 := Keep.alloc w2 (.cells #[.pointer (some ⟨w.heap.size + 1, 0, none⟩)] 55) (fun _ => False)
    have g3 := heap_alloc_eq w2 (.cells #[.pointer (some ⟨w.heap.size + 1, 0, none⟩)] 55)
    have z3 : (w2.alloc (.cells #[.pointer (some ⟨w.heap.size + 1, 0, none⟩)] 55)).heap.size = w2.heap.size + 1 := by simp
    rw [z1] at g2 z2; rw [z2] at g3 z3
    have k23 := k2.trans k3 (fun _ q => q.elim)
    have k13 := k1.trans k23 (fun _ q => q.elim)
    rw [ho2] at g1
    exact ⟨k13, ⟨0, false, ⟨k3.get g2 (fun q => q), HB.out.aside k13, fun h0 x q z => by have := HV.out h0 x q; omega, Nat.zero_le _⟩, rfl⟩, k23.get g1 (fun q => q), g3, z3⟩
  clear hwa
  have P := Lib.hid P0
  clear P0
  obtain ⟨l0, s1, hs⟩ : ∃ l s1, takeS b (some 0) 1 = (l, s1) := ⟨_, _, rfl⟩
  have ht := otake_c P.out.2.1 1 (by omega) (fun _ _ => .inl (by omega))
  have hlen := fun p => takeS_len (b := b) (s := some 0) (n := 1) (p := p)
  rw [hs] at ht hlen
  simp only at ht hlen
  have HOP := Lib.hid (And.intro (opS_of hs) hlen)
  clear hs hlen
  refine ht.mono ?_
  rintro e w1 ⟨a1, cap1, l, rfl, h1, _, h2, h3, h4, h5⟩
  have hl : l.length = 1 := by
    cases s1 with
    | none => rw [h5 rfl]; rfl
    | some p => rw [h4 p rfl]; exact HOP.out.2 p rfl
  obtain ⟨x, rfl⟩ := len_one hl
  have hx := byte_lt x
  have hxw : IntKind.i64.wrap (x.toNat : Int) = (x.toNat : Int) := IntWalk.i64_in _ (by omega)
  have hop : ∀ p, s1 = some p → (x.toNat : Int) = (opS b (some 0)).1 := fun p q => by
    rw [HOP.out.1.1, ← h4 p q, q]; rfl
  obtain ⟨blk, off, rfl, hb, hf⟩ := h1.some (by simp)
  have c0 := hf 0 x rfl
  rw [Nat.add_zero] at c0
  unfold u8V at c0
  have hsz1 := h3.size
  have D1 : DecO w (w1.alloc (.cells #[.int .i64 (x.toNat : Int), .string { data := #[] }, .string { data := #[] }, .int .i64 0, .int .i64 0, .int .i64 0, .int .i64 0, .int .i64 0, .slice none 0 0] 24)) (.slice a0 bl cap0) b s1 w1.heap.size #[.int .i64 (x.toNat : Int), .string { data := #[] }, .string { data := #[] }, .int .i64 0, .int .i64 0, .int .i64 0, .int .i64 0, .int .i64 0, .slice none 0 0] := by
    have k4 := Keep.alloc w1 (.cells #[.int .i64 (x.toNat : Int), .string { data := #[] }, .string { data := #[] }, .int .i64 0, .int .i64 0, .int .i64 0, .int .i64 0, .int .i64 0, .slice none 0 0] 24) (fun _ => False)
    have kw := P.out.1.trans h3 (fun x q => .inr (by omega))
    have hz := P.out.2.2.2.2
    exact ⟨kw.trans k4 (fun _ q => q.elim), h2.aside k4, k4.get (h3.get P.out.2.2.1 (by omega)) (fun q => q), k4.get (h3.get P.out.2.2.2.1 (by omega)) (fun q => q), heap_alloc_eq _ _, by omega⟩
  have hop2 := hop
  clear hop ht h1 h2 h3 h4 h5 hf hl hb
  simp only [List.length_cons, List.length_nil, Nat.reduceAdd]
  have pt := D1.pt
  obtain ⟨cb, hcb⟩ : ∃ cb, cb = w1.heap.size := ⟨_, rfl⟩
  obtain ⟨wb, hwb⟩ : ∃ wb, wb = w1.alloc (.cells #[.int .i64 (x.toNat : Int), .string { data := #[] }, .string { data := #[] }, .int .i64 0, .int .i64 0, .int .i64 0, .int .i64 0, .int .i64 0, .slice none 0 0] 24) := ⟨_, rfl⟩
  rw [← hcb, ← hwb] at D1
  have E1 := Lib.hid (And.intro D1 hop2)
  clear D1 hop2
  go_wp2_with fail
  rw [← hwb]
  rw [← hcb]
  rw [← hwb] at pt
  clear hwb hcb c0 hx hxw hsz1 pt
  obtain ⟨t1, s2, hs1⟩ : ∃ t s, textS b s1 = (t, s) := ⟨_, _, rfl⟩
  have ht := otext_c E1.out.1.rd
  rw [hs1] at ht
  have HS1 := Lib.hid hs1
  clear hs1
  refine ht.mono ?_
  rintro e w1 ⟨u1, rfl, h1, h2, h3, h4⟩
  have E2 := Lib.hid (E1.out.1.call h1 h2)
  have f1 := E2.out.free 1
  have d1 := E2.out.at (i := 1) rfl
  have HU1 := Lib.hid (And.intro h3 h4)
  clear ht h1 h2 h3 h4
  have pt := (E2.out.put HV.out 1 (.string (strB u1))).pt
  go_wp2_with fail
  obtain ⟨wx1, hwx1⟩ : ∃ wx, wx = w1.setCell ⟨cb, 1, none⟩ (.string (strB u1)) := ⟨_, rfl⟩
  rw [← hwx1]
  rw [← hwx1] at pt
  have E3 := Lib.hid (show DecO w wx1 (.slice a0 bl cap0) b s2 cb #[.int .i64 (x.toNat : Int), .string (strB u1), .string { data := #[] }, .int .i64 0, .int .i64 0, .int .i64 0, .int .i64 0, .int .i64 0, .slice none 0 0] from by rw [hwx1]; exact E2.out.put HV.out 1 _)
  clear hwx1 f1 d1 pt E2
  obtain ⟨t2, s3, hs2⟩ : ∃ t s, textS b s2 = (t, s) := ⟨_, _, rfl⟩
  have ht := otext_c E3.out.rd
  rw [hs2] at ht
  have HS2 := Lib.hid hs2
  clear hs2
  refine ht.mono ?_
  rintro e w2 ⟨u2, rfl, h1, h2, h3, h4⟩
  have E4 := Lib.hid (E3.out.call h1 h2)
  have f2 := E4.out.free 2
  have d2 := E4.out.at (i := 2) rfl
  have HU2 := Lib.hid (And.intro h3 h4)
  clear ht h1 h2 h3 h4
  go_wp2_with (
    go_at_call 28
    refine (numbers_c _ _).mono ?_
    rintro e w11 ⟨rfl, rfl⟩)
  obtain ⟨c0, hc0⟩ : ∃ c0, c0 = (⟨(x.toNat : Int), strB u1, strB u2, 0, 0, 0, 0, 0, []⟩ : CallV) := ⟨_, rfl⟩
  obtain ⟨wx2, hwx2⟩ : ∃ wx, wx = w2.setCell ⟨cb, 2, none⟩ (.string (strB u2)) := ⟨_, rfl⟩
  have E5 := Lib.hid (show DecO w wx2 (.slice a0 bl cap0) b s3 cb (callC c0 (.slice none 0 0)).toArray from by rw [hwx2, hc0]; exact E4.out.put HV.out 2 _)
  have hz2 : w2.heap.size = wx2.heap.size := by rw [hwx2]; simp
  try rw [hz2]
  rw [← hwx2]
  clear hwx2 f2 d2 E4 E3 hz2
  obtain ⟨wL, hwL⟩ : ∃ wL, wL = wx2.alloc (.cells #[.pointer (some ⟨cb, 0, none⟩)] 63) := ⟨_, rfl⟩
  have kL : Keep wx2 wL (fun _ => False) := by rw [hwL]; exact Keep.alloc _ _ _
  have EL := Lib.hid (show DecO w wL (.slice a0 bl cap0) b s3 cb (callC c0 (.slice none 0 0)).toArray from E5.out.aside HV.out kL)
  have HB2 := Lib.hid (show wL.heap[wx2.heap.size]? = some (.cells #[.pointer (some ⟨cb, 0, none⟩)] 63 (0, 0)) from by rw [hwL]; exact heap_alloc_eq _ _)
  have hszL : wL.heap.size = wx2.heap.size + 1 := by rw [hwL]; simp
  have hcbL := lt_of_blk E5.out.box
  have hcb2 := EL.out.hcb
  rw [← hwL]
  clear hwL kL E5
  obtain ⟨q, hq⟩ : ∃ q, q = wx2.heap.size := ⟨_, rfl⟩
  rw [← hq] at HB2 hszL hcbL ⊢
  clear hq
  refine wp_range2 (α := Fin 5) (e1 := fun x => nameOf x.val) (e2 := fun x => Value.pointer (some ⟨cb, x.val + 3, none⟩)) (j := 8) (gf := 44) (lb := #[.pointer (some ⟨q, 0, none⟩)]) rfl (enters_of Tryd.func44 (by kernel_rfl) rfl)
    (nums_stops 8 (by omega) q cb wL HB2.out) (by omega)
    (fun pre W => (∃ c, DecO w W (.slice a0 bl cap0) b (runN b c0 s3 pre).2 cb (callC c (.slice none 0 0)).toArray ∧ ∀ p, (runN b c0 s3 pre).2 = some p → c = (runN b c0 s3 pre).1) ∧ W.heap[q]? = some (.cells #[.pointer (some ⟨cb, 0, none⟩)] 63 (0, 0)))
    (fun cd pre W => False)
    (own_of fun s W W' h k => by
      obtain ⟨⟨c, h1, h2⟩, h3⟩ := h
      exact ⟨⟨c, h1.own HV.out (by omega) k, h2⟩, k.get h3 (fun z => not_cells h3 z.2)⟩)
    (fun cd => own_of fun s W W' h k => h)
    ⟨⟨c0, EL.out, fun p _ => rfl⟩, HB2.out⟩ ?assign ?body ?done ?stop
  case assign =>
    intro l x W K hK
    gi_wp2
    exact hK
  case body =>
    rintro l pre y W ⟨⟨c, hW, hc⟩, hq⟩ hlt
    have hn1 : 1 ≤ 7 := by omega
    simp only [List.setIfInBounds_toArray, List.set_cons_succ, List.set_cons_zero]
    have pt := hW.pt
    have hrun := runN_snoc b c0 s3 pre y
    generalize runN b c0 s3 pre = R0 at *
    obtain ⟨k, s4, hs⟩ : ∃ l s, takeS b R0.2 4 = (l, s) := ⟨_, _, rfl⟩
    have ht := otake_c hW.rd 4 (by omega) (fun _ _ => .inl (by omega))
    have hlen := fun p => takeS_len (b := b) (s := R0.2) (n := 4) (p := p)
    rw [hs] at ht hlen
    simp only at ht hlen
    have D := Lib.hid (And.intro (And.intro hW hc) (And.intro hq (And.intro hrun (And.intro (fourS_via hs) hlen))))
    clear hW hc hq hlt hs hlen hrun
    gi_wp2_with (
      refine ⟨trivial, ?_⟩
      gi_at_call 26
      refine (CallsIn.inRound l (callsIn_wide.2 ht)).mono ?_
      rintro e W2 ⟨a1, cap1, k1, rfl, h1, _, h2, h3, h4, h5⟩)
    have hk1 : k1.length = 4 := by
      cases s4 with
      | none => rw [h5 rfl]; rfl
      | some p => rw [h4 p rfl]; exact D.out.2.2.2.2 p rfl
    have hk2 : ∀ p, s4 = some p → sgn (val4 k1) = (fourS b R0.2).1 := fun p q => by
      rw [h4 p q]; exact (D.out.2.2.2.1.2 p q).symm
    obtain ⟨x1, x2, x3, x4, rfl⟩ := len_four hk1
    simp only [List.length_cons, List.length_nil, Nat.reduceAdd] at h1 ⊢
    obtain ⟨blk2, off2, rfl, hb2, hf2⟩ := h1.some (by simp)
    have m0 := hf2 0 x1 rfl
    have m1 := hf2 1 x2 rfl
    have m2 := hf2 2 x3 rfl
    have m3 := hf2 3 x4 rfl
    rw [Nat.add_zero] at m0
    unfold u8V at m0 m1 m2 m3
    have E := Lib.hid (And.intro (D.out.1.1.call h2 h3) (And.intro h3 hk2))
    have hfr := E.out.1.free (y.val + 3)
    have hat := E.out.1.at (num_at c (.slice none 0 0) y)
    clear h1 h2 h3 h4 h5 ht hf2 hk1 hk2 pt
    obtain ⟨hrd, hsg, hwr⟩ := four_num x1 x2 x3 x4
    obtain ⟨S4, hS⟩ : ∃ S4, S4 = sgn (val4 [x1, x2, x3, x4]) := ⟨_, rfl⟩
    have HS := Lib.hid hS
    rw [← hS] at hsg hwr
    clear hS
    generalize val4 [x1, x2, x3, x4] = V at hrd hsg
    generalize x1.toNat = A at m0 hrd
    generalize x2.toNat = B at m1 hrd
    generalize x3.toNat = C at m2 hrd
    generalize x4.toNat = D4 at m3 hrd
    refine region_round_tail 26 (by kernel_rfl) (by kernel_rfl) (by kernel_rfl) (fun ⟨_, _, h⟩ => h) ?_
    simp only [List.take_succ_cons, List.take_zero, List.drop_succ_cons, List.drop_zero]
    repeat still_step
    try refine wpStill_nil ?_
    go_wp2
    rw [hrd, hsg, hwr]
    have kS := (Keep.setCell W2 ⟨cb, y.val + 3, none⟩ (.int .i64 S4)).trans (Keep.drew _ (fun _ => False)) (fun _ z => z.elim)
    have hq := E.out.2.1.get D.out.2.1 (fun z => by have := D.out.1.1.hcb; omega)
    have hqc : q ≠ cb := by have := D.out.1.1.hcb; omega
    have E9 := (E.out.1.put HV.out (y.val + 3) (.int .i64 S4)).aside HV.out (Keep.drew _ (fun _ => False))
    rw [callC_set] at E9
    refine ⟨keepsFrom_of ((E.out.2.1.mono (T := fun z => z < wL.heap.size) (fun z e => by omega)).trans (kS.mono (T := fun z => z < wL.heap.size) (fun z e => by have e' : z = cb := e; omega)) (fun z e => .inl e)) (fun z e => e), (Kq.of E.out.2.1 (by have := D.out.1.1.hcb; omega)).trans (Kq.of kS (fun e => hqc e)), ⟨c.setNum y.val S4, ?_, fun p hp => ?_⟩, kS.get hq (fun e => hqc e)⟩
    · rw [D.out.2.2.1, D.out.2.2.2.1.1]
      exact E9
    · rw [D.out.2.2.1] at hp ⊢
      rw [D.out.2.2.2.1.1] at hp
      have h0 : ∃ p0, R0.2 = some p0 := by
        rcases hR : R0.2 with _ | p0
        · have := fourS_none (b := b) hR
          rw [D.out.2.2.2.1.1, hp] at this
          cases this
        · exact ⟨p0, rfl⟩
      obtain ⟨p0, h0⟩ := h0
      rw [← D.out.1.2 p0 h0, HS.out, E.out.2.2 p hp]
  case done =>
    rintro D xs W hD rfl ⟨⟨c, hW, hc⟩, hq⟩ hK
    obtain ⟨s8, hs8⟩ : ∃ s, s = (runN b c0 s3 five).2 := ⟨_, rfl⟩
    rw [← hs8] at hW hc
    have pt := hW.pt
    have ht := otext_c hW.rd
    obtain ⟨t3, s9, hs9⟩ : ∃ t s, textS b s8 = (t, s) := ⟨_, _, rfl⟩
    rw [hs9] at ht
    have HS9 := Lib.hid hs9
    have HS8 := Lib.hid hs8
    have E := Lib.hid (And.intro (And.intro hW hc) hK)
    have hDq : q < D := by omega
    clear hW hc hq hK hs8 hs9
    go_upto_if 61 with (
      go_at_call 27
      refine ht.mono ?_
      rintro e w5 ⟨u3, rfl, h1, h2, h3, h4⟩
      have E6 := Lib.hid (And.intro (E.out.1.1.call h1 h2) (h2.get E.out.2 (by omega)))
      have HU3 := Lib.hid (And.intro h3 h4)
      clear ht h1 h2 h3 h4 pt)
    have hu3 : u3.length ≤ 65535 := HU3.out.1
    have hcD : cb < D := by omega
    have hwD : w.heap.size + 2 < cb := E6.out.1.hcb
    have hem0 : (strB u3).toList.isEmpty = u3.isEmpty := by rw [ByteArray.toList_eq]; rfl
    generalize (strB u3).toList.isEmpty = em at *
    have HEM := Lib.hid hem0
    clear hem0
    go_cut [] from 61 to 64 (fun wx => ∃ a cap, DecO w wx (.slice a0 bl cap0) b s9 cb (callC c (.slice a u3.length cap)).toArray ∧ BSl wx (.slice a u3.length cap) u3 ∧ (∀ x, (Value.slice a u3.length cap).ownBlock = some x → w.heap.size < x ∧ x ≠ cb ∧ x ≠ D) ∧ wx.heap[D]? = some (.deferred (some [])))
    case first =>
      cases em with
      | true =>
        have HN := Lib.hid (show u3 = [] from by
          cases u3 with
          | nil => rfl
          | cons y r => have := HEM.out; cases this)
        go_wp2
        go_meet
        case rel => exact ⟨none, 0, by rw [HN.out]; exact E6.out.1, by rw [HN.out]; exact BSl.nil _, fun x q => by simp [Value.ownBlock] at q, E6.out.2⟩
      | false =>
        have hsl : (strB u3).size ≤ maxLen := by rw [strB_size]; unfold maxLen; omega
        go_wp2_with (
          refine law_bytes_of rfl _ _ _ rfl Tryd.underlying9 Tryd.underlying22 Tryd.underlying5 (strB u3) rfl hsl ?_
          intro cap8 w10 hB8 hK8
          have B8 := Lib.hid (And.intro hB8 hK8)
          have E9 := Lib.hid (E6.out.1.aside HV.out hK8)
          have f8 := E9.out.free 8
          have d8 := E9.out.at (i := 8) rfl
          clear hB8 hK8)
        go_meet
        case rel =>
          have hsz5 := lt_of_blk E6.out.2
          have hcb5 := lt_of_blk E6.out.1.box
          have kS := Keep.setCell w10 ⟨cb, 8, none⟩ (.slice (some ⟨w5.heap.size, 0, none⟩) (strB u3).size cap8)
          refine ⟨some ⟨w5.heap.size, 0, none⟩, cap8, E9.out.put HV.out 8 _, B8.out.1.keep kS (fun z q e => by
            have q' : w5.heap.size = z := by simpa [Value.ownBlock] using q
            have e' : z = cb := e
            omega), fun z q => ?_, kS.get (B8.out.2.get E6.out.2 (fun e => e)) (fun e => by have e' : D = cb := e; omega)⟩
          have q' : w5.heap.size = z := by simpa [Value.ownBlock] using q
          omega
    case rest =>
      obtain ⟨a9, cap9, hD9, hB9, hO9, hK9⟩ := hcut
      obtain ⟨hst, hok⟩ := callS_of (b := b) (x := (x.toNat : Int)) HOP.out.1.2 (fun p q => E1.out.2 p q) HS1.out HU1.out.2 HS2.out HU2.out.2 hc0 HS8.out E.out.1.2 HS9.out HU3.out.2
      have pt := hD9.pt
      have c2 := hD9.rd.sh
      have DZ := Lib.hid (And.intro hD9 (And.intro hB9 (And.intro hO9 hK9)))
      have HST := Lib.hid (And.intro hst hok)
      have fz : ∀ i, wc.frozen? ⟨w.heap.size, i, none⟩ = false := fun i => free_blk hD9.res i
      have hDw : w.heap.size ≠ D := by omega
      clear hD9 hB9 hO9 hK9 hst hok
      cases s9 with
      | none =>
        have HD := Lib.hid (show decC b = (CallV.none, 0, 10) by
          unfold decC
          obtain ⟨c', s', hs'⟩ : ∃ c' s', callS b = (c', s') := ⟨_, _, rfl⟩
          have h2 := HST.out.1
          rw [hs'] at h2 ⊢
          simp only at h2
          rw [h2])
        simp only [Option.isNone_none] at c2
        have x0 := cell_blk DZ.out.1.res 0
        have x1 := cell_blk DZ.out.1.res 1
        have x2 := cell_blk DZ.out.1.res 2
        have x3 := cell_blk DZ.out.1.res 3
        have x4 := cell_blk DZ.out.1.res 4
        have x5 := cell_blk DZ.out.1.res 5
        have x6 := cell_blk DZ.out.1.res 6
        have x7 := cell_blk DZ.out.1.res 7
        have x8 := cell_blk DZ.out.1.res 8
        simp only [callC, CallV.none, List.getElem?_toArray, List.getElem?_cons_zero, List.getElem?_cons_succ] at x0 x1 x2 x3 x4 x5 x6 x7 x8
        go_wp2
        obtain ⟨wf, hwf⟩ : ∃ wf, wf = ((((((((wc.setCell ⟨w.heap.size, 0, none⟩ (.int .i64 0)).setCell ⟨w.heap.size, 1, none⟩ (.string { data := #[] })).setCell ⟨w.heap.size, 2, none⟩ (.string { data := #[] })).setCell ⟨w.heap.size, 3, none⟩ (.int .i64 0)).setCell ⟨w.heap.size, 4, none⟩ (.int .i64 0)).setCell ⟨w.heap.size, 5, none⟩ (.int .i64 0)).setCell ⟨w.heap.size, 6, none⟩ (.int .i64 0)).setCell ⟨w.heap.size, 7, none⟩ (.int .i64 0)).setCell ⟨w.heap.size, 8, none⟩ (.slice none 0 0) := ⟨_, rfl⟩
        obtain ⟨zf, kf⟩ := set9 (show wc.heap[w.heap.size]? = some (.cells #[.int .i64 0, .string { data := #[] }, .string { data := #[] }, .int .i64 0, .int .i64 0, .int .i64 0, .int .i64 0, .int .i64 0, .slice none 0 0] 24 (0, 0)) from DZ.out.1.res) (.int .i64 0) (.string { data := #[] }) (.string { data := #[] }) (.int .i64 0) (.int .i64 0) (.int .i64 0) (.int .i64 0) (.int .i64 0) (.slice none 0 0)
        rw [← hwf] at zf kf ⊢
        refine odec_leaves (c := CallV.none) (dv := .slice none 0 0) (n := .int .i64 0) (e := .int .i64 10) zf (kf.get DZ.out.2.2.2 (fun q => hDw q.symm)) hDw rfl rfl rfl (fun w' kk => ?_)
        rw [HD.out]
        exact ⟨none, 0, rfl, BSl.nil _, (DZ.out.1.keep.trans kf (fun x q => .inr (by rw [show x = w.heap.size from q]; exact Nat.le_refl _))).trans kk (fun x q => .inr (by rw [show x = D from q]; omega)), fun x q => by simp [Value.ownBlock] at q⟩
      | some p =>
        have hcs := HST.out.2 p rfl
        obtain ⟨cF, hcF⟩ : ∃ cF : CallV, cF = { c with data := u3 } := ⟨_, rfl⟩
        rw [← hcF] at hcs
        have hszs := callS_sizes b
        rw [hcs] at hszs
        simp only at hszs
        have hdl : cF.data = u3 := by rw [hcF]
        have hbx : DecO w wc (.slice a0 bl cap0) b (some p) cb (callC cF (.slice a9 cF.data.length cap9)).toArray := by
          have := DZ.out.1
          rw [hcF]
          exact this
        have DF := Lib.hid (And.intro hbx hcs)
        have hrt : ∀ w', Calls Tryd.prog 19 #[callA cF (.slice a9 cF.data.length cap9)] w' fun r w'' => r = .returned (.int .i64 cF.right) ∧ Keep w' w'' (fun _ => False) := fun w' => oright_c cF a9 cap9 w' (by omega)
        obtain ⟨R, hR⟩ : ∃ R, R = cF.right := ⟨_, rfl⟩
        rw [← hR] at hrt
        have HR := Lib.hid hR
        simp only [Option.isNone_some] at c2
        have hdl2 := Lib.hid hdl
        clear hR hcs hszs hdl hcF hbx
        obtain ⟨op, path, tt, fd, flags, mode, n, m, dat⟩ := cF
        simp only [callA] at hrt
        have x0 := cell_blk DF.out.1.box 0
        have x1 := cell_blk DF.out.1.box 1
        have x2 := cell_blk DF.out.1.box 2
        have x3 := cell_blk DF.out.1.box 3
        have x4 := cell_blk DF.out.1.box 4
        have x5 := cell_blk DF.out.1.box 5
        have x6 := cell_blk DF.out.1.box 6
        have x7 := cell_blk DF.out.1.box 7
        have x8 := cell_blk DF.out.1.box 8
        simp only [callC, List.getElem?_toArray, List.getElem?_cons_zero, List.getElem?_cons_succ] at x0 x1 x2 x3 x4 x5 x6 x7 x8
        by_cases hz : R = 0
        · have HD := Lib.hid (show decC b = ((⟨op, path, tt, fd, flags, mode, n, m, dat⟩ : CallV), p, 0) by unfold decC; rw [DF.out.2]; simp only; rw [← HR.out, hz]; rfl)
          subst hz
          go_wp2_with (
            go_at_call 19
            refine (hrt _).mono ?_
            rintro e w11 ⟨rfl, hk11⟩
            have D11 := Lib.hid (And.intro (DF.out.1.aside HV.out hk11) (And.intro (DZ.out.2.1.aside hk11) (hk11.get DZ.out.2.2.2 (fun q => q))))
            clear hrt hk11 pt)
          clear x0 x1 x2 x3 x4 x5 x6 x7 x8
          have pt := D11.out.1.pt
          have u0' := cell_blk D11.out.1.box 0
          have u1' := cell_blk D11.out.1.box 1
          have u2' := cell_blk D11.out.1.box 2
          have u3' := cell_blk D11.out.1.box 3
          have u4' := cell_blk D11.out.1.box 4
          have u5' := cell_blk D11.out.1.box 5
          have u6' := cell_blk D11.out.1.box 6
          have u7' := cell_blk D11.out.1.box 7
          have u8' := cell_blk D11.out.1.box 8
          simp only [callC, List.getElem?_toArray, List.getElem?_cons_zero, List.getElem?_cons_succ] at u0' u1' u2' u3' u4' u5' u6' u7' u8'
          have hat : w11.cell? ⟨w.heap.size + 1, 1, none⟩ = some (.int .i64 p) := by
            obtain ⟨p', sh', h3, h4⟩ := D11.out.1.rd
            cases sh' with
            | true => simp at h4
            | false =>
              simp only [Bool.false_eq_true, if_false, Option.some.injEq] at h4
              rw [cell_blk h3.cell, h4]; rfl
          have fz2 : ∀ i, w11.frozen? ⟨w.heap.size, i, none⟩ = false := fun i => free_blk D11.out.1.res i
          have v0 := cell_blk D11.out.1.res 0
          have v1 := cell_blk D11.out.1.res 1
          have v2 := cell_blk D11.out.1.res 2
          have v3 := cell_blk D11.out.1.res 3
          have v4 := cell_blk D11.out.1.res 4
          have v5 := cell_blk D11.out.1.res 5
          have v6 := cell_blk D11.out.1.res 6
          have v7 := cell_blk D11.out.1.res 7
          have v8 := cell_blk D11.out.1.res 8
          simp only [callC, CallV.none, List.getElem?_toArray, List.getElem?_cons_zero, List.getElem?_cons_succ] at v0 v1 v2 v3 v4 v5 v6 v7 v8
          go_wp2
          go_region_law (fail)
          all_goals go_wp2
          all_goals (
          obtain ⟨wf, hwf⟩ : ∃ wf, wf = ((((((((w11.setCell ⟨w.heap.size, 0, none⟩ (.int .i64 op)).setCell ⟨w.heap.size, 1, none⟩ (.string path)).setCell ⟨w.heap.size, 2, none⟩ (.string tt)).setCell ⟨w.heap.size, 3, none⟩ (.int .i64 fd)).setCell ⟨w.heap.size, 4, none⟩ (.int .i64 flags)).setCell ⟨w.heap.size, 5, none⟩ (.int .i64 mode)).setCell ⟨w.heap.size, 6, none⟩ (.int .i64 n)).setCell ⟨w.heap.size, 7, none⟩ (.int .i64 m)).setCell ⟨w.heap.size, 8, none⟩ (.slice a9 dat.length cap9) := ⟨_, rfl⟩
          obtain ⟨zf, kf⟩ := set9 (show w11.heap[w.heap.size]? = some (.cells #[.int .i64 0, .string { data := #[] }, .string { data := #[] }, .int .i64 0, .int .i64 0, .int .i64 0, .int .i64 0, .int .i64 0, .slice none 0 0] 24 (0, 0)) from D11.out.1.res) (.int .i64 op) (.string path) (.string tt) (.int .i64 fd) (.int .i64 flags) (.int .i64 mode) (.int .i64 n) (.int .i64 m) (.slice a9 dat.length cap9)
          rw [← hwf] at zf kf ⊢
          have kf := kf.trans (Keep.drew wf (fun _ => False)) (fun _ q => q.elim)
          refine odec_leaves (W := wf.drew) (c := ⟨op, path, tt, fd, flags, mode, n, m, dat⟩) (dv := .slice a9 dat.length cap9) (n := .int .i64 p) (e := .int .i64 0) zf (kf.get D11.out.2.2 (fun q => hDw q.symm)) hDw rfl rfl rfl (fun w' kk => ?_)
          rw [HD.out]
          have hdl3 := hdl2.out
          refine ⟨a9, cap9, rfl, ?_, (D11.out.1.keep.trans kf (fun x q => .inr (by rw [show x = w.heap.size from q]; exact Nat.le_refl _))).trans kk (fun x q => .inr (by rw [show x = D from q]; omega)), fun x q => ?_⟩
          · simp only [hdl3]
            have hO := DZ.out.2.2.1
            have hB := D11.out.2.1
            exact (hB.keep kf (fun x q z => by have := hO x q; have z' : x = w.heap.size := z; omega)).keep kk (fun x q z => (hO x q).2.2 z)
          · simp only [hdl3] at q
            exact Nat.le_of_lt (DZ.out.2.2.1 x q).1)
        · have g0 : (R != 0) = true := by simpa using hz
          have HD := Lib.hid (show decC b = (CallV.none, 0, R) by unfold decC; rw [DF.out.2]; simp only; rw [← HR.out, if_neg hz])
          clear hz
          go_wp2_with (
            go_at_call 19
            refine (hrt _).mono ?_
            rintro e w11 ⟨rfl, hk11⟩
            have D11 := Lib.hid (And.intro (DF.out.1.aside HV.out hk11) (hk11.get DZ.out.2.2.2 (fun q => q)))
            have fz2 : ∀ i, w11.frozen? ⟨w.heap.size, i, none⟩ = false := fun i => free_blk D11.out.1.res i
            have v0 := cell_blk D11.out.1.res 0
            have v1 := cell_blk D11.out.1.res 1
            have v2 := cell_blk D11.out.1.res 2
            have v3 := cell_blk D11.out.1.res 3
            have v4 := cell_blk D11.out.1.res 4
            have v5 := cell_blk D11.out.1.res 5
            have v6 := cell_blk D11.out.1.res 6
            have v7 := cell_blk D11.out.1.res 7
            have v8 := cell_blk D11.out.1.res 8
            simp only [callC, CallV.none, List.getElem?_toArray, List.getElem?_cons_zero, List.getElem?_cons_succ] at v0 v1 v2 v3 v4 v5 v6 v7 v8
            clear hrt hk11 pt)
          obtain ⟨wf, hwf⟩ : ∃ wf, wf = ((((((((w11.setCell ⟨w.heap.size, 0, none⟩ (.int .i64 0)).setCell ⟨w.heap.size, 1, none⟩ (.string { data := #[] })).setCell ⟨w.heap.size, 2, none⟩ (.string { data := #[] })).setCell ⟨w.heap.size, 3, none⟩ (.int .i64 0)).setCell ⟨w.heap.size, 4, none⟩ (.int .i64 0)).setCell ⟨w.heap.size, 5, none⟩ (.int .i64 0)).setCell ⟨w.heap.size, 6, none⟩ (.int .i64 0)).setCell ⟨w.heap.size, 7, none⟩ (.int .i64 0)).setCell ⟨w.heap.size, 8, none⟩ (.slice none 0 0) := ⟨_, rfl⟩
          obtain ⟨zf, kf⟩ := set9 (show w11.heap[w.heap.size]? = some (.cells #[.int .i64 0, .string { data := #[] }, .string { data := #[] }, .int .i64 0, .int .i64 0, .int .i64 0, .int .i64 0, .int .i64 0, .slice none 0 0] 24 (0, 0)) from D11.out.1.res) (.int .i64 0) (.string { data := #[] }) (.string { data := #[] }) (.int .i64 0) (.int .i64 0) (.int .i64 0) (.int .i64 0) (.int .i64 0) (.slice none 0 0)
          rw [← hwf] at zf kf ⊢
          refine odec_leaves (c := CallV.none) (dv := .slice none 0 0) (n := .int .i64 0) (e := .int .i64 R) zf (kf.get D11.out.2 (fun q => hDw q.symm)) hDw rfl rfl rfl (fun w' kk => ?_)
          rw [HD.out]
          exact ⟨none, 0, rfl, BSl.nil _, (D11.out.1.keep.trans kf (fun x q => .inr (by rw [show x = w.heap.size from q]; exact Nat.le_refl _))).trans kk (fun x q => .inr (by rw [show x = D from q]; omega)), fun x q => by simp [Value.ownBlock] at q⟩
  case stop =>
    rintro D cd pre W hD hpre hF
    exact hF.elim

theorem odec_c {w : World} {v : Value} {b : Bs} (hb : BSl w v b) :
    Calls Tryd.prog 12 #[v] w fun r w' => ∃ a cap, r = .returned (.tuple #[callA (decC b).1 (.slice a (decC b).1.data.length cap), .int .i64 (decC b).2.1, .int .i64 (decC b).2.2]) ∧ BSl w' (.slice a (decC b).1.data.length cap) (decC b).1.data ∧ Keep w w' (fun _ => False) ∧ ∀ x, (Value.slice a (decC b).1.data.length cap).ownBlock = some x → w.heap.size ≤ x := odec_r (.inl hb)

end Go.Proofs.YtdbkkfhneafeiaaDoor
