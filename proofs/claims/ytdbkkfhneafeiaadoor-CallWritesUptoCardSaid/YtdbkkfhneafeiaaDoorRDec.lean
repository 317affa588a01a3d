/-
  The document's Decode of a call (warrenref16.Decode).
-/
import Derived.Test.YtdbkkfhneafeiaaDoorRd1
import Derived.Test.YtdbkkfhneafeiaaDoorRight0
import Derived.StillTailTactics
import Derived.Deep.RegionLaw
import Derived.Deep.CutRange
import Derived.Deep.CutBlock
import Derived.Deep.DeepCutAuto
namespace Go.Proofs.YtdbkkfhneafeiaaDoor
open Go Go.RowKit
set_option linter.unusedSectionVars false
set_option linter.unusedSimpArgs false
set_option linter.unusedVariables false
set_option maxRecDepth 100000

theorem set9 {w : World} {b : Nat} {T : TypeId} {x0 x1 x2 x3 x4 x5 x6 x7 x8 : Value} (h : w.heap[b]? = some (.cells #[x0, x1, x2, x3, x4, x5, x6, x7, x8] T (0, 0))) (v0 v1 v2 v3 v4 v5 v6 v7 v8 : Value) :
    (((((((((w.setCell ⟨b, 0, none⟩ v0).setCell ⟨b, 1, none⟩ v1).setCell ⟨b, 2, none⟩ v2).setCell ⟨b, 3, none⟩ v3).setCell ⟨b, 4, none⟩ v4).setCell ⟨b, 5, none⟩ v5).setCell ⟨b, 6, none⟩ v6).setCell ⟨b, 7, none⟩ v7).setCell ⟨b, 8, none⟩ v8).heap[b]? = some (.cells #[v0, v1, v2, v3, v4, v5, v6, v7, v8] T (0, 0)) ∧
    Keep w (((((((((w.setCell ⟨b, 0, none⟩ v0).setCell ⟨b, 1, none⟩ v1).setCell ⟨b, 2, none⟩ v2).setCell ⟨b, 3, none⟩ v3).setCell ⟨b, 4, none⟩ v4).setCell ⟨b, 5, none⟩ v5).setCell ⟨b, 6, none⟩ v6).setCell ⟨b, 7, none⟩ v7).setCell ⟨b, 8, none⟩ v8) (fun x => x = b) := by
  have e0 : (w.setCell ⟨b, 0, none⟩ v0).heap[b]? = some (.cells #[v0, x1, x2, x3, x4, x5, x6, x7, x8] T (0, 0)) := heap_setCell_eq (off := 0) v0 h
  have k0 : Keep w (w.setCell ⟨b, 0, none⟩ v0) (fun x => x = b) := Keep.setCell w ⟨b, 0, none⟩ v0
  generalize w.setCell ⟨b, 0, none⟩ v0 = w1 at *
  have e1 : (w1.setCell ⟨b, 1, none⟩ v1).heap[b]? = some (.cells #[v0, v1, x2, x3, x4, x5, x6, x7, x8] T (0, 0)) := heap_setCell_eq (off := 1) v1 e0
  have k1 : Keep w1 (w1.setCell ⟨b, 1, none⟩ v1) (fun x => x = b) := Keep.setCell w1 ⟨b, 1, none⟩ v1
  generalize w1.setCell ⟨b, 1, none⟩ v1 = w2 at *
  have e2 : (w2.setCell ⟨b, 2, none⟩ v2).heap[b]? = some (.cells #[v0, v1, v2, x3, x4, x5, x6, x7, x8] T (0, 0)) := heap_setCell_eq (off := 2) v2 e1
  have k2 : Keep w2 (w2.setCell ⟨b, 2, none⟩ v2) (fun x => x = b) := Keep.setCell w2 ⟨b, 2, none⟩ v2
  generalize w2.setCell ⟨b, 2, none⟩ v2 = w3 at *
  have e3 : (w3.setCell ⟨b, 3, none⟩ v3).heap[b]? = some (.cells #[v0, v1, v2, v3, x4, x5, x6, x7, x8] T (0, 0)) := heap_setCell_eq (off := 3) v3 e2
  have k3 : Keep w3 (w3.setCell ⟨b, 3, none⟩ v3) (fun x => x = b) := Keep.setCell w3 ⟨b, 3, none⟩ v3
  generalize w3.setCell ⟨b, 3, none⟩ v3 = w4 at *
  have e4 : (w4.setCell ⟨b, 4, none⟩ v4).heap[b]? = some (.cells #[v0, v1, v2, v3, v4, x5, x6, x7, x8] T (0, 0)) := heap_setCell_eq (off := 4) v4 e3
  have k4 : Keep w4 (w4.setCell ⟨b, 4, none⟩ v4) (fun x => x = b) := Keep.setCell w4 ⟨b, 4, none⟩ v4
  generalize w4.setCell ⟨b, 4, none⟩ v4 = w5 at *
  have e5 : (w5.setCell ⟨b, 5, none⟩ v5).heap[b]? = some (.cells #[v0, v1, v2, v3, v4, v5, x6, x7, x8] T (0, 0)) := heap_setCell_eq (off := 5) v5 e4
  have k5 : Keep w5 (w5.setCell ⟨b, 5, none⟩ v5) (fun x => x = b) := Keep.setCell w5 ⟨b, 5, none⟩ v5
  generalize w5.setCell ⟨b, 5, none⟩ v5 = w6 at *
  have e6 : (w6.setCell ⟨b, 6, none⟩ v6).heap[b]? = some (.cells #[v0, v1, v2, v3, v4, v5, v6, x7, x8] T (0, 0)) := heap_setCell_eq (off := 6) v6 e5
  have k6 : Keep w6 (w6.setCell ⟨b, 6, none⟩ v6) (fun x => x = b) := Keep.setCell w6 ⟨b, 6, none⟩ v6
  generalize w6.setCell ⟨b, 6, none⟩ v6 = w7 at *
  have e7 : (w7.setCell ⟨b, 7, none⟩ v7).heap[b]? = some (.cells #[v0, v1, v2, v3, v4, v5, v6, v7, x8] T (0, 0)) := heap_setCell_eq (off := 7) v7 e6
  have k7 : Keep w7 (w7.setCell ⟨b, 7, none⟩ v7) (fun x => x = b) := Keep.setCell w7 ⟨b, 7, none⟩ v7
  generalize w7.setCell ⟨b, 7, none⟩ v7 = w8 at *
  have e8 : (w8.setCell ⟨b, 8, none⟩ v8).heap[b]? = some (.cells #[v0, v1, v2, v3, v4, v5, v6, v7, v8] T (0, 0)) := heap_setCell_eq (off := 8) v8 e7
  have k8 : Keep w8 (w8.setCell ⟨b, 8, none⟩ v8) (fun x => x = b) := Keep.setCell w8 ⟨b, 8, none⟩ v8
  exact ⟨e8, (((((((k0.trans k1 (fun _ q => .inl q)).trans k2 (fun _ q => .inl q)).trans k3 (fun _ q => .inl q)).trans k4 (fun _ q => .inl q)).trans k5 (fun _ q => .inl q)).trans k6 (fun _ q => .inl q)).trans k7 (fun _ q => .inl q)).trans k8 (fun _ q => .inl q)⟩

def zeroC : Array Value := #[.int .i64 0, .string { data := #[] }, .string { data := #[] }, .int .i64 0, .int .i64 0, .int .i64 0, .int .i64 0, .int .i64 0, .slice none 0 0]

/-- Decode on its way: the result's block, the reader's, the call's. -/
structure DecR (w wx : World) (v : Value) (b : Bs) (s : St) (C : Array Value) : Prop where
  keep : Keep w wx (fun _ => False)
  rd : RdS wx (w.heap.size + 1) v b s
  res : wx.heap[w.heap.size]? = some (.cells zeroC 24 (0, 0))
  box : wx.heap[w.heap.size + 1 + 1]? = some (.cells C 24 (0, 0))

section
variable {w wx w1 w2 : World} {v : Value} {b : Bs} {s s' : St} {C : Array Value}
theorem DecR.call (h : DecR w wx v b s C) (hr : RdS w1 (w.heap.size + 1) v b s') (k : Keep wx w1 (fun x => x = w.heap.size + 1)) : DecR w w1 v b s' C :=
  ⟨h.keep.trans k (fun x q => .inr (by omega)), hr, k.get h.res (by omega), k.get h.box (by omega)⟩
theorem DecR.aside (h : DecR w wx v b s C) (k : Keep wx w1 (fun _ => False)) : DecR w w1 v b s C :=
  ⟨h.keep.trans k (fun x q => q.elim), h.rd.aside k, k.get h.res (fun q => q), k.get h.box (fun q => q)⟩
theorem RdS.far {rb : Nat} {U : Nat → Prop} (h : RdS wx rb v b s) (k : Keep wx w1 U) (h1 : ¬ U rb) (h2 : b ≠ [] → Clear v U) : RdS w1 rb v b s := by
  obtain ⟨p, ok, h3, h4⟩ := h
  exact ⟨p, ok, ⟨k.get h3.cell h1, h3.src.set k h2, h3.sep, h3.le⟩, h4⟩
theorem DecR.put (h : DecR w wx v b s C) (hv : b ≠ [] → ∀ x, v.ownBlock = some x → x < w.heap.size) (i : Nat) (u : Value) : DecR w (wx.setCell ⟨w.heap.size + 1 + 1, i, none⟩ u) v b s (C.setIfInBounds i u) := by
  have k := Keep.setCell wx ⟨w.heap.size + 1 + 1, i, none⟩ u
  refine ⟨h.keep.trans k (fun x q => .inr (by have q' : x = w.heap.size + 1 + 1 := q; omega)), h.rd.far k (fun q => by have q' : w.heap.size + 1 = w.heap.size + 1 + 1 := q; omega) (fun h0 x q z => by have := hv h0 x q; have z' : x = w.heap.size + 1 + 1 := z; omega), k.get h.res (fun q => by have q' : w.heap.size = w.heap.size + 1 + 1 := q; omega), heap_setCell_eq u h.box⟩
theorem DecR.at (h : DecR w wx v b s C) {i : Nat} {u : Value} (hi : C[i]? = some u) : wx.cell? ⟨w.heap.size + 1 + 1, i, none⟩ = some u := by rw [cell_blk h.box]; exact hi
theorem DecR.free (h : DecR w wx v b s C) (i : Nat) : wx.frozen? ⟨w.heap.size + 1 + 1, i, none⟩ = false := free_blk h.box i
end

theorem opS_of {b : Bs} {s s1 : St} {l : Bs} (h : takeS b s 1 = (l, s1)) : (opS b s).1 = (if s1.isSome then (((l.getD 0 0).toNat : Nat) : Int) else 0) ∧ (opS b s).2 = s1 := by
  unfold opS
  rw [h]
  cases s1 <;> exact ⟨rfl, rfl⟩

theorem right_none : CallV.none.right = 1 := by kernel_rfl

set_option maxRecDepth 100000 in
set_option maxHeartbeats 8000000 in
theorem rdec_r {w : World} {v : Value} {b : Bs} (hb : BSr w v b) :
    Calls Tryd.prog 13 #[v] w fun r w' => ∃ a cap, r = .returned (.tuple #[callA (decC b).1 (.slice a (decC b).1.data.length cap), .int .i64 (decC b).2.1, .int .i64 (decC b).2.2]) ∧ BSl w' (.slice a (decC b).1.data.length cap) (decC b).1.data ∧ Keep w w' (fun _ => False) ∧ ∀ x, (Value.slice a (decC b).1.data.length cap).ownBlock = some x → w.heap.size ≤ x := by
  have hv : b ≠ [] → ∀ x, v.ownBlock = some x → x < w.heap.size := fun h0 => (hb.bsl h0).lt
  obtain ⟨a0, cap0, hv0, _⟩ := hb.valr
  subst hv0
  obtain ⟨v, hvv⟩ : ∃ v, v = Value.slice a0 b.length cap0 := ⟨_, rfl⟩
  rw [← hvv] at hb hv
  have D0 : DecR w (((w.alloc (.cells zeroC 24)).alloc (.cells #[v, .int .i64 0, .bool true] 69)).alloc (.cells zeroC 24)) v b (some 0) zeroC := by
    have k1 := Keep.alloc w (.cells zeroC 24) (fun _ => False)
    have g1 := heap_alloc_eq w (.cells zeroC 24)
    have z1 : (w.alloc (.cells zeroC 24)).heap.size = w.heap.size + 1 := by simp
    generalize w.alloc (.cells zeroC 24) = w1 at *
    have k2 := Keep.alloc w1 (.cells #[v, .int .i64 0, .bool true] 69) (fun _ => False)
    have g2 := heap_alloc_eq w1 (.cells #[v, .int .i64 0, .bool true] 69)
    have z2 : (w1.alloc (.cells #[v, .int .i64 0, .bool true] 69)).heap.size = w1.heap.size + 1 := by simp
    generalize w1.alloc (.cells #[v, .int .i64 0, .bool true] 69) = w2 at *
    have k3 := Keep.alloc w2 (.cells zeroC 24) (fun _ => False)
    have g3 := heap_alloc_eq w2 (.cells zeroC 24)
    have z3 : (w2.alloc (.cells zeroC 24)).heap.size = w2.heap.size + 1 := by simp
    rw [z1] at g2 z2; rw [z2] at g3 z3
    have k23 := k2.trans k3 (fun _ q => q.elim)
    have k13 := k1.trans k23 (fun _ q => q.elim)
    exact ⟨k13, ⟨0, true, ⟨k3.get g2 (fun q => q), hb.aside k13, fun h0 x q z => by have := hv h0 x q; omega, Nat.zero_le _⟩, rfl⟩, k23.get g1 (fun q => q), g3⟩
  rw [hvv] at D0
  have D := Lib.hid D0
  generalize b.length = bl at *
  rw [hvv] at hv
  have HV := Lib.hid hv
  clear hb hv hvv
  go_enter Tryd.func13, Tryd.ntmps13
  go_wp2_with fail
  obtain ⟨wa, hwa⟩ : ∃ wa, wa = (((w.alloc (.cells zeroC 24)).alloc (.cells #[.slice a0 bl cap0, .int .i64 0, .bool true] 69)).alloc (.cells zeroC 24)) := ⟨_, rfl⟩
  rw [← hwa] at D
  unfold zeroC at hwa
  rw [← hwa]
  clear hwa D0
  have hsz := D.out.keep.size
  obtain ⟨l, s1, hs⟩ : ∃ l s1, takeS b (some 0) 1 = (l, s1) := ⟨_, _, rfl⟩
  have ht := rtake_c D.out.rd 1 (by omega) (fun _ _ => .inl (by omega))
  have hlen := fun p => takeS_len (b := b) (s := some 0) (n := 1) (p := p)
  rw [hs] at ht hlen
  simp only at ht hlen
  have HOP := Lib.hid (And.intro (opS_of hs) hlen)
  clear hs hlen
  go_upto_if 18 with (
    go_at_call 29
    refine ht.mono ?_
    rintro e w1 ⟨a1, cap1, rfl, h1, _, h2, h3⟩
    have D1 := Lib.hid (And.intro (D.out.call h2 h3) h1)
    have c2 := h2.ok
    clear ht h1 h2 h3)
  obtain ⟨op, hopv⟩ : ∃ op, op = (opS b (some 0)).1 := ⟨_, rfl⟩
  have hopb : 0 ≤ op ∧ op ≤ 255 := by
    rw [hopv, HOP.out.1.1]
    have := byte_lt (l.getD 0 0)
    split <;> omega
  go_cut [] from 19 to 23 (fun wx => DecR w wx (.slice a0 bl cap0) b s1 (zeroC.setIfInBounds 0 (.int .i64 op)))
  case first =>
    cases s1 with
    | none =>
      simp only [Option.isSome_none] at c2
      have HO : op = 0 := by rw [hopv, HOP.out.1.1]; rfl
      have HO2 := Lib.hid HO
      clear hopv HO
      go_wp2
      go_meet
      case rel => rw [HO2.out]; exact D1.out.1
    | some p =>
      have hl1 := HOP.out.2 p rfl
      obtain ⟨x, rfl⟩ : ∃ x, l = [x] := by
        match l, hl1 with
        | [x], _ => exact ⟨x, rfl⟩
      simp only [Option.isSome_some] at c2
      have HO2 := Lib.hid (show op = ((x.toNat : Nat) : Int) by rw [hopv, HOP.out.1.1]; rfl)
      obtain ⟨blk, off, rfl, hb, hf⟩ := D1.out.2.some (by simp)
      have c0 := hf 0 x rfl
      rw [Nat.add_zero] at c0
      unfold u8V at c0
      have f0 := D1.out.1.free 0
      have d0 := D1.out.1.at (i := 0) rfl
      have hx := byte_lt x
      have hxw : IntKind.i64.wrap (x.toNat : Int) = (x.toNat : Int) := IntWalk.i64_in _ (by omega)
      clear hopv hl1 hf
      simp only [List.length_cons, List.length_nil, Nat.reduceAdd]
      go_wp2
      go_meet
      case rel => rw [HO2.out]; exact D1.out.1.put HV.out 0 _
  case rest =>
    have D2 := Lib.hid hcut
    clear hcut D1 D c2 wa hsz
    have ht := hopv
    clear ht
    go_wp2_with fail
    obtain ⟨t1, s2, hs1⟩ : ∃ t s, textS b s1 = (t, s) := ⟨_, _, rfl⟩
    have ht := rtext_c D2.out.rd
    rw [hs1] at ht
    have HS1 := Lib.hid hs1
    clear hs1
    refine ht.mono ?_
    rintro e w1 ⟨rfl, h1, h2⟩
    have E1 := Lib.hid (D2.out.call h1 h2)
    have f1 := E1.out.free 1
    have d1 := E1.out.at (i := 1) rfl
    clear ht h1 h2 D2
    go_wp2_with fail
    obtain ⟨wx1, hwx1⟩ : ∃ wx, wx = w1.setCell ⟨w.heap.size + 1 + 1, 1, none⟩ (.string (strB t1)) := ⟨_, rfl⟩
    rw [← hwx1]
    have D3 := Lib.hid (show DecR w wx1 (.slice a0 bl cap0) b s2 #[.int .i64 op, .string (strB t1), .string { data := #[] }, .int .i64 0, .int .i64 0, .int .i64 0, .int .i64 0, .int .i64 0, .slice none 0 0] from by rw [hwx1]; exact E1.out.put HV.out 1 _)
    clear hwx1 f1 E1 d1
    obtain ⟨t2, s3, hs2⟩ : ∃ t s, textS b s2 = (t, s) := ⟨_, _, rfl⟩
    have ht := rtext_c D3.out.rd
    rw [hs2] at ht
    have HS2 := Lib.hid hs2
    clear hs2
    refine ht.mono ?_
    rintro e w2 ⟨rfl, h1, h2⟩
    have E2 := Lib.hid (D3.out.call h1 h2)
    have f2 := E2.out.free 2
    have d2 := E2.out.at (i := 2) rfl
    clear ht h1 h2 D3
    go_wp2_with fail
    obtain ⟨wx2, hwx2⟩ : ∃ wx, wx = w2.setCell ⟨w.heap.size + 1 + 1, 2, none⟩ (.string (strB t2)) := ⟨_, rfl⟩
    rw [← hwx2]
    have D4 := Lib.hid (show DecR w wx2 (.slice a0 bl cap0) b s3 #[.int .i64 op, .string (strB t1), .string (strB t2), .int .i64 0, .int .i64 0, .int .i64 0, .int .i64 0, .int .i64 0, .slice none 0 0] from by rw [hwx2]; exact E2.out.put HV.out 2 _)
    clear hwx2 f2 E2 d2
    obtain ⟨t3, s4, hs3⟩ : ∃ t s, fourS b s3 = (t, s) := ⟨_, _, rfl⟩
    have ht := rfour_c D4.out.rd
    rw [hs3] at ht
    have HS3 := Lib.hid hs3
    clear hs3
    refine ht.mono ?_
    rintro e w3 ⟨rfl, h1, h2⟩
    have E3 := Lib.hid (D4.out.call h1 h2)
    have f3 := E3.out.free 3
    have d3 := E3.out.at (i := 3) rfl
    clear ht h1 h2 D4
    go_wp2_with fail
    obtain ⟨wx3, hwx3⟩ : ∃ wx, wx = w3.setCell ⟨w.heap.size + 1 + 1, 3, none⟩ (.int .i64 t3) := ⟨_, rfl⟩
    rw [← hwx3]
    have D5 := Lib.hid (show DecR w wx3 (.slice a0 bl cap0) b s4 #[.int .i64 op, .string (strB t1), .string (strB t2), .int .i64 t3, .int .i64 0, .int .i64 0, .int .i64 0, .int .i64 0, .slice none 0 0] from by rw [hwx3]; exact E3.out.put HV.out 3 _)
    clear hwx3 f3 E3 d3
    obtain ⟨t4, s5, hs4⟩ : ∃ t s, fourS b s4 = (t, s) := ⟨_, _, rfl⟩
    have ht := rfour_c D5.out.rd
    rw [hs4] at ht
    have HS4 := Lib.hid hs4
    clear hs4
    refine ht.mono ?_
    rintro e w4 ⟨rfl, h1, h2⟩
    have E4 := Lib.hid (D5.out.call h1 h2)
    have f4 := E4.out.free 4
    have d4 := E4.out.at (i := 4) rfl
    clear ht h1 h2 D5
    go_wp2_with fail
    obtain ⟨wx4, hwx4⟩ : ∃ wx, wx = w4.setCell ⟨w.heap.size + 1 + 1, 4, none⟩ (.int .i64 t4) := ⟨_, rfl⟩
    rw [← hwx4]
    have D6 := Lib.hid (show DecR w wx4 (.slice a0 bl cap0) b s5 #[.int .i64 op, .string (strB t1), .string (strB t2), .int .i64 t3, .int .i64 t4, .int .i64 0, .int .i64 0, .int .i64 0, .slice none 0 0] from by rw [hwx4]; exact E4.out.put HV.out 4 _)
    clear hwx4 f4 E4 d4
    obtain ⟨t5, s6, hs5⟩ : ∃ t s, fourS b s5 = (t, s) := ⟨_, _, rfl⟩
    have ht := rfour_c D6.out.rd
    rw [hs5] at ht
    have HS5 := Lib.hid hs5
    clear hs5
    refine ht.mono ?_
    rintro e w5 ⟨rfl, h1, h2⟩
    have E5 := Lib.hid (D6.out.call h1 h2)
    have f5 := E5.out.free 5
    have d5 := E5.out.at (i := 5) rfl
    clear ht h1 h2 D6
    go_wp2_with fail
    obtain ⟨wx5, hwx5⟩ : ∃ wx, wx = w5.setCell ⟨w.heap.size + 1 + 1, 5, none⟩ (.int .i64 t5) := ⟨_, rfl⟩
    rw [← hwx5]
    have D7 := Lib.hid (show DecR w wx5 (.slice a0 bl cap0) b s6 #[.int .i64 op, .string (strB t1), .string (strB t2), .int .i64 t3, .int .i64 t4, .int .i64 t5, .int .i64 0, .int .i64 0, .slice none 0 0] from by rw [hwx5]; exact E5.out.put HV.out 5 _)
    clear hwx5 f5 E5 d5
    obtain ⟨t6, s7, hs6⟩ : ∃ t s, fourS b s6 = (t, s) := ⟨_, _, rfl⟩
    have ht := rfour_c D7.out.rd
    rw [hs6] at ht
    have HS6 := Lib.hid hs6
    clear hs6
    refine ht.mono ?_
    rintro e w6 ⟨rfl, h1, h2⟩
    have E6 := Lib.hid (D7.out.call h1 h2)
    have f6 := E6.out.free 6
    have d6 := E6.out.at (i := 6) rfl
    clear ht h1 h2 D7
    go_wp2_with fail
    obtain ⟨wx6, hwx6⟩ : ∃ wx, wx = w6.setCell ⟨w.heap.size + 1 + 1, 6, none⟩ (.int .i64 t6) := ⟨_, rfl⟩
    rw [← hwx6]
    have D8 := Lib.hid (show DecR w wx6 (.slice a0 bl cap0) b s7 #[.int .i64 op, .string (strB t1), .string (strB t2), .int .i64 t3, .int .i64 t4, .int .i64 t5, .int .i64 t6, .int .i64 0, .slice none 0 0] from by rw [hwx6]; exact E6.out.put HV.out 6 _)
    clear hwx6 f6 E6 d6
    obtain ⟨t7, s8, hs7⟩ : ∃ t s, fourS b s7 = (t, s) := ⟨_, _, rfl⟩
    have ht := rfour_c D8.out.rd
    rw [hs7] at ht
    have HS7 := Lib.hid hs7
    clear hs7
    refine ht.mono ?_
    rintro e w7 ⟨rfl, h1, h2⟩
    have E7 := Lib.hid (D8.out.call h1 h2)
    have f7 := E7.out.free 7
    have d7 := E7.out.at (i := 7) rfl
    clear ht h1 h2 D8
    go_wp2_with fail
    obtain ⟨wx7, hwx7⟩ : ∃ wx, wx = w7.setCell ⟨w.heap.size + 1 + 1, 7, none⟩ (.int .i64 t7) := ⟨_, rfl⟩
    rw [← hwx7]
    have D9 := Lib.hid (show DecR w wx7 (.slice a0 bl cap0) b s8 #[.int .i64 op, .string (strB t1), .string (strB t2), .int .i64 t3, .int .i64 t4, .int .i64 t5, .int .i64 t6, .int .i64 t7, .slice none 0 0] from by rw [hwx7]; exact E7.out.put HV.out 7 _)
    clear hwx7 f7 E7 d7
    obtain ⟨t8, s9, hs8⟩ : ∃ t s, textS b s8 = (t, s) := ⟨_, _, rfl⟩
    have ht := rtext_c D9.out.rd
    have h8l := textS_size b s8
    rw [hs8] at ht h8l
    simp only at h8l
    have HS8 := Lib.hid hs8
    have hcall := Lib.hid (show callS b = (⟨op, strB t1, strB t2, t3, t4, t5, t6, t7, t8⟩, s9) by
      have e0 : opS b (some 0) = (op, s1) := by rw [← HOP.out.1.2, hopv]
      unfold callS
      simp only [e0, HS1.out, HS2.out, HS3.out, HS4.out, HS5.out, HS6.out, HS7.out, HS8.out])
    clear hs8
    refine ht.mono ?_
    rintro e w9 ⟨rfl, h1, h2⟩
    have E8 := Lib.hid (D9.out.call h1 h2)
    have hszE := E8.out.keep.size
    have hbx := lt_of_blk E8.out.box
    clear ht h1 h2 D9
    have hsl : (strB t8).size ≤ maxLen := by rw [strB_size]; unfold maxLen; omega
    go_upto_if 53 with (
      refine law_bytes_of rfl _ _ _ rfl Tryd.underlying9 Tryd.underlying22 Tryd.underlying5 (strB t8) rfl hsl ?_
      intro cap8 w10 hB8 hK8
      have B8 := Lib.hid (And.intro hB8 hK8)
      have E9 := Lib.hid (E8.out.aside hK8)
      have f8 := E9.out.free 8
      have d8 := E9.out.at (i := 8) rfl
      have c2 := E9.out.rd.ok
      have c3 : ∀ u, (w10.setCell ⟨w.heap.size + 1 + 1, 8, none⟩ u).cell? ⟨w.heap.size + 1, 2, none⟩ = some (.bool s9.isSome) := fun u => (E9.out.put HV.out 8 u).rd.ok
      clear hB8 hK8)
    obtain ⟨wy, hwy⟩ : ∃ wy, wy = w10.setCell ⟨w.heap.size + 1 + 1, 8, none⟩ (.slice (some ⟨w9.heap.size, 0, none⟩) (strB t8).size cap8) := ⟨_, rfl⟩
    have D10 := Lib.hid (show DecR w wy (.slice a0 bl cap0) b s9 #[.int .i64 op, .string (strB t1), .string (strB t2), .int .i64 t3, .int .i64 t4, .int .i64 t5, .int .i64 t6, .int .i64 t7, .slice (some ⟨w9.heap.size, 0, none⟩) (strB t8).size cap8] from by rw [hwy]; exact E9.out.put HV.out 8 _)
    have BY : BSl wy (.slice (some ⟨w9.heap.size, 0, none⟩) (strB t8).size cap8) t8 ∧ w.heap.size < w9.heap.size := by
      refine ⟨?_, by omega⟩
      rw [hwy]
      exact B8.out.1.keep (Keep.setCell w10 ⟨w.heap.size + 1 + 1, 8, none⟩ _) (fun x q z => by
        have q' : w9.heap.size = x := by simpa [Value.ownBlock] using q
        have z' : x = w.heap.size + 1 + 1 := z
        omega)
    have BY := Lib.hid BY
    rw [← hwy]
    clear hwy f8 d8 c2 c3 E9 E8 B8 hbx hszE h8l hsl hopb hopv
    cases s9 with
    | none =>
      have HD := Lib.hid (show decC b = (CallV.none, 0, 10) by unfold decC; rw [hcall.out])
      have fz : ∀ i, wy.frozen? ⟨w.heap.size, i, none⟩ = false := fun i => free_blk D10.out.res i
      have x0 := cell_blk D10.out.res 0
      have x1 := cell_blk D10.out.res 1
      have x2 := cell_blk D10.out.res 2
      have x3 := cell_blk D10.out.res 3
      have x4 := cell_blk D10.out.res 4
      have x5 := cell_blk D10.out.res 5
      have x6 := cell_blk D10.out.res 6
      have x7 := cell_blk D10.out.res 7
      have x8 := cell_blk D10.out.res 8
      simp only [zeroC, List.getElem?_toArray, List.getElem?_cons_zero, List.getElem?_cons_succ] at x0 x1 x2 x3 x4 x5 x6 x7 x8
      simp only [Option.isSome_none, Bool.not_false]
      go_wp2
      obtain ⟨wf, hwf⟩ : ∃ wf, wf = (((((((((wy.setCell ⟨w.heap.size, 0, none⟩ (.int .i64 0)).setCell ⟨w.heap.size, 1, none⟩ (.string { data := #[] })).setCell ⟨w.heap.size, 2, none⟩ (.string { data := #[] })).setCell ⟨w.heap.size, 3, none⟩ (.int .i64 0)).setCell ⟨w.heap.size, 4, none⟩ (.int .i64 0)).setCell ⟨w.heap.size, 5, none⟩ (.int .i64 0)).setCell ⟨w.heap.size, 6, none⟩ (.int .i64 0)).setCell ⟨w.heap.size, 7, none⟩ (.int .i64 0)).setCell ⟨w.heap.size, 8, none⟩ (.slice none 0 0)) := ⟨_, rfl⟩
      obtain ⟨zf, kf⟩ := set9 (show wy.heap[w.heap.size]? = some (.cells #[.int .i64 0, .string { data := #[] }, .string { data := #[] }, .int .i64 0, .int .i64 0, .int .i64 0, .int .i64 0, .int .i64 0, .slice none 0 0] 24 (0, 0)) from D10.out.res) (.int .i64 0) (.string { data := #[] }) (.string { data := #[] }) (.int .i64 0) (.int .i64 0) (.int .i64 0) (.int .i64 0) (.int .i64 0) (.slice none 0 0)
      rw [← hwf] at zf kf ⊢
      have y0 : wf.cell? ⟨w.heap.size, 0, none⟩ = some (.int .i64 0) := by rw [cell_blk zf]; rfl
      have y1 : wf.cell? ⟨w.heap.size, 1, none⟩ = some (.string { data := #[] }) := by rw [cell_blk zf]; rfl
      have y2 : wf.cell? ⟨w.heap.size, 2, none⟩ = some (.string { data := #[] }) := by rw [cell_blk zf]; rfl
      have y3 : wf.cell? ⟨w.heap.size, 3, none⟩ = some (.int .i64 0) := by rw [cell_blk zf]; rfl
      have y4 : wf.cell? ⟨w.heap.size, 4, none⟩ = some (.int .i64 0) := by rw [cell_blk zf]; rfl
      have y5 : wf.cell? ⟨w.heap.size, 5, none⟩ = some (.int .i64 0) := by rw [cell_blk zf]; rfl
      have y6 : wf.cell? ⟨w.heap.size, 6, none⟩ = some (.int .i64 0) := by rw [cell_blk zf]; rfl
      have y7 : wf.cell? ⟨w.heap.size, 7, none⟩ = some (.int .i64 0) := by rw [cell_blk zf]; rfl
      have y8 : wf.cell? ⟨w.heap.size, 8, none⟩ = some (.slice none 0 0) := by rw [cell_blk zf]; rfl
      refine bodyPost_ret (v := .tuple #[callA CallV.none (.slice none 0 0), .int .i64 0, .int .i64 10]) (by simp [results, Tryd.results13, go_sem, y0, y1, y2, y3, y4, y5, y6, y7, y8]; rfl) rfl ?_
      rw [HD.out]
      exact ⟨none, 0, rfl, BSl.nil _, D10.out.keep.trans kf (fun x q => .inr (by rw [show x = w.heap.size from q]; exact Nat.le_refl _)), fun x q => by simp [Value.ownBlock] at q⟩
    | some p =>
      obtain ⟨R, hR⟩ : ∃ R, R = (⟨op, strB t1, strB t2, t3, t4, t5, t6, t7, t8⟩ : CallV).right := ⟨_, rfl⟩
      have h1l := textS_size b s1
      have h2l := textS_size b s2
      have h8l := textS_size b s8
      rw [HS1.out] at h1l
      rw [HS2.out] at h2l
      rw [HS8.out] at h8l
      simp only at h1l h2l h8l
      have hr : ∀ w', Calls Tryd.prog 21 #[.agg #[.int .i64 op, .string (strB t1), .string (strB t2), .int .i64 t3, .int .i64 t4, .int .i64 t5, .int .i64 t6, .int .i64 t7, .slice (some ⟨w9.heap.size, 0, none⟩) (strB t8).size cap8]] w' fun r w'' => r = .returned (.int .i64 R) ∧ Keep w' w'' (fun _ => False) := fun w' => by
        rw [hR]
        exact rright_c ⟨op, strB t1, strB t2, t3, t4, t5, t6, t7, t8⟩ (some ⟨w9.heap.size, 0, none⟩) cap8 w' ⟨by show t1.length ≤ _; omega, by show t2.length ≤ _; omega, by show t8.length ≤ _; omega⟩
      have HR := Lib.hid hR
      clear hR h1l h2l h8l
      have x0 := cell_blk D10.out.box 0
      have x1 := cell_blk D10.out.box 1
      have x2 := cell_blk D10.out.box 2
      have x3 := cell_blk D10.out.box 3
      have x4 := cell_blk D10.out.box 4
      have x5 := cell_blk D10.out.box 5
      have x6 := cell_blk D10.out.box 6
      have x7 := cell_blk D10.out.box 7
      have x8 := cell_blk D10.out.box 8
      simp only [zeroC, List.getElem?_toArray, List.getElem?_cons_zero, List.getElem?_cons_succ] at x0 x1 x2 x3 x4 x5 x6 x7 x8
      simp only [Option.isSome_some, Bool.not_true]
      by_cases hz : R = 0
      · have HD := Lib.hid (show decC b = (⟨op, strB t1, strB t2, t3, t4, t5, t6, t7, t8⟩, p, 0) by unfold decC; rw [hcall.out]; simp only; rw [← HR.out, hz]; rfl)
        subst hz
        go_wp2_with (
          go_at_call 21
          refine (hr _).mono ?_
          rintro e w11 ⟨rfl, hk11⟩
          have D11 := Lib.hid (D10.out.aside hk11)
          have BZ := Lib.hid (BY.out.1.aside hk11)
          clear hr hk11)
        clear x0 x1 x2 x3 x4 x5 x6 x7 x8
        have u0 := cell_blk D11.out.box 0
        have u1 := cell_blk D11.out.box 1
        have u2 := cell_blk D11.out.box 2
        have u3 := cell_blk D11.out.box 3
        have u4 := cell_blk D11.out.box 4
        have u5 := cell_blk D11.out.box 5
        have u6 := cell_blk D11.out.box 6
        have u7 := cell_blk D11.out.box 7
        have u8 := cell_blk D11.out.box 8
        simp only [zeroC, List.getElem?_toArray, List.getElem?_cons_zero, List.getElem?_cons_succ] at u0 u1 u2 u3 u4 u5 u6 u7 u8
        have hat : w11.cell? ⟨w.heap.size + 1, 1, none⟩ = some (.int .i64 p) := by
          obtain ⟨p', ok', h3, h4⟩ := D11.out.rd
          cases ok' with
          | false => simp at h4
          | true =>
            simp only [if_true, Option.some.injEq] at h4
            rw [cell_blk h3.cell, h4]; rfl
        have fz : ∀ i, w11.frozen? ⟨w.heap.size, i, none⟩ = false := fun i => free_blk D11.out.res i
        have v0 := cell_blk D11.out.res 0
        have v1 := cell_blk D11.out.res 1
        have v2 := cell_blk D11.out.res 2
        have v3 := cell_blk D11.out.res 3
        have v4 := cell_blk D11.out.res 4
        have v5 := cell_blk D11.out.res 5
        have v6 := cell_blk D11.out.res 6
        have v7 := cell_blk D11.out.res 7
        have v8 := cell_blk D11.out.res 8
        simp only [zeroC, List.getElem?_toArray, List.getElem?_cons_zero, List.getElem?_cons_succ] at v0 v1 v2 v3 v4 v5 v6 v7 v8
        go_wp2
        go_region_law (fail)
        all_goals go_wp2
        all_goals (
        obtain ⟨wd, hwd⟩ : ∃ wd, wd = w11 := ⟨_, rfl⟩
        have K12 : Keep w11 wd (fun _ => False) := by rw [hwd]; exact Keep.refl _ _
        have D12 := Lib.hid (D11.out.aside K12)
        have BQ := Lib.hid (BZ.out.aside K12)
        rw [← hwd]
        obtain ⟨wf, hwf⟩ : ∃ wf, wf = (((((((((wd.setCell ⟨w.heap.size, 0, none⟩ (.int .i64 op)).setCell ⟨w.heap.size, 1, none⟩ (.string (strB t1))).setCell ⟨w.heap.size, 2, none⟩ (.string (strB t2))).setCell ⟨w.heap.size, 3, none⟩ (.int .i64 t3)).setCell ⟨w.heap.size, 4, none⟩ (.int .i64 t4)).setCell ⟨w.heap.size, 5, none⟩ (.int .i64 t5)).setCell ⟨w.heap.size, 6, none⟩ (.int .i64 t6)).setCell ⟨w.heap.size, 7, none⟩ (.int .i64 t7)).setCell ⟨w.heap.size, 8, none⟩ (.slice (some ⟨w9.heap.size, 0, none⟩) (strB t8).size cap8)) := ⟨_, rfl⟩
        obtain ⟨zf, kf⟩ := set9 (show wd.heap[w.heap.size]? = some (.cells #[.int .i64 0, .string { data := #[] }, .string { data := #[] }, .int .i64 0, .int .i64 0, .int .i64 0, .int .i64 0, .int .i64 0, .slice none 0 0] 24 (0, 0)) from D12.out.res) (.int .i64 op) (.string (strB t1)) (.string (strB t2)) (.int .i64 t3) (.int .i64 t4) (.int .i64 t5) (.int .i64 t6) (.int .i64 t7) (.slice (some ⟨w9.heap.size, 0, none⟩) (strB t8).size cap8)
        rw [← hwf] at zf kf ⊢
        have kf := kf.trans (Keep.drew wf (fun _ => False)) (fun _ q => q.elim)
        have y0 : wf.cell? ⟨w.heap.size, 0, none⟩ = some (.int .i64 op) := by rw [cell_blk zf]; rfl
        have y1 : wf.cell? ⟨w.heap.size, 1, none⟩ = some (.string (strB t1)) := by rw [cell_blk zf]; rfl
        have y2 : wf.cell? ⟨w.heap.size, 2, none⟩ = some (.string (strB t2)) := by rw [cell_blk zf]; rfl
        have y3 : wf.cell? ⟨w.heap.size, 3, none⟩ = some (.int .i64 t3) := by rw [cell_blk zf]; rfl
        have y4 : wf.cell? ⟨w.heap.size, 4, none⟩ = some (.int .i64 t4) := by rw [cell_blk zf]; rfl
        have y5 : wf.cell? ⟨w.heap.size, 5, none⟩ = some (.int .i64 t5) := by rw [cell_blk zf]; rfl
        have y6 : wf.cell? ⟨w.heap.size, 6, none⟩ = some (.int .i64 t6) := by rw [cell_blk zf]; rfl
        have y7 : wf.cell? ⟨w.heap.size, 7, none⟩ = some (.int .i64 t7) := by rw [cell_blk zf]; rfl
        have y8 : wf.cell? ⟨w.heap.size, 8, none⟩ = some (.slice (some ⟨w9.heap.size, 0, none⟩) (strB t8).size cap8) := by rw [cell_blk zf]; rfl
        refine bodyPost_ret (v := .tuple #[callA ⟨op, strB t1, strB t2, t3, t4, t5, t6, t7, t8⟩ (.slice (some ⟨w9.heap.size, 0, none⟩) (strB t8).size cap8), .int .i64 p, .int .i64 0]) (by simp [results, Tryd.results13, go_sem, y0, y1, y2, y3, y4, y5, y6, y7, y8]; rfl) rfl ?_
        rw [HD.out]
        refine ⟨some ⟨w9.heap.size, 0, none⟩, cap8, rfl, BQ.out.keep kf (fun x q z => ?_), D12.out.keep.trans kf (fun x q => .inr (by rw [show x = w.heap.size from q]; exact Nat.le_refl _)), fun x q => ?_⟩
        · have q' : w9.heap.size = x := by simpa [Value.ownBlock] using q
          have z' : x = w.heap.size := z
          have := BY.out.2
          omega
        · have q' : w9.heap.size = x := by simpa [Value.ownBlock] using q
          have := BY.out.2
          omega)
      · have g0 : (R != 0) = true := by simpa using hz
        have HD := Lib.hid (show decC b = (CallV.none, 0, R) by unfold decC; rw [hcall.out]; simp only; rw [← HR.out, if_neg hz])
        clear hz
        go_wp2_with (
          go_at_call 21
          refine (hr _).mono ?_
          rintro e w11 ⟨rfl, hk11⟩
          have D11 := Lib.hid (D10.out.aside hk11)
          have fz : ∀ i, w11.frozen? ⟨w.heap.size, i, none⟩ = false := fun i => free_blk D11.out.res i
          have v0 := cell_blk D11.out.res 0
          have v1 := cell_blk D11.out.res 1
          have v2 := cell_blk D11.out.res 2
          have v3 := cell_blk D11.out.res 3
          have v4 := cell_blk D11.out.res 4
          have v5 := cell_blk D11.out.res 5
          have v6 := cell_blk D11.out.res 6
          have v7 := cell_blk D11.out.res 7
          have v8 := cell_blk D11.out.res 8
          simp only [zeroC, List.getElem?_toArray, List.getElem?_cons_zero, List.getElem?_cons_succ] at v0 v1 v2 v3 v4 v5 v6 v7 v8
          clear hr hk11)
        obtain ⟨wf, hwf⟩ : ∃ wf, wf = (((((((((w11.setCell ⟨w.heap.size, 0, none⟩ (.int .i64 0)).setCell ⟨w.heap.size, 1, none⟩ (.string { data := #[] })).setCell ⟨w.heap.size, 2, none⟩ (.string { data := #[] })).setCell ⟨w.heap.size, 3, none⟩ (.int .i64 0)).setCell ⟨w.heap.size, 4, none⟩ (.int .i64 0)).setCell ⟨w.heap.size, 5, none⟩ (.int .i64 0)).setCell ⟨w.heap.size, 6, none⟩ (.int .i64 0)).setCell ⟨w.heap.size, 7, none⟩ (.int .i64 0)).setCell ⟨w.heap.size, 8, none⟩ (.slice none 0 0)) := ⟨_, rfl⟩
        obtain ⟨zf, kf⟩ := set9 (show w11.heap[w.heap.size]? = some (.cells #[.int .i64 0, .string { data := #[] }, .string { data := #[] }, .int .i64 0, .int .i64 0, .int .i64 0, .int .i64 0, .int .i64 0, .slice none 0 0] 24 (0, 0)) from D11.out.res) (.int .i64 0) (.string { data := #[] }) (.string { data := #[] }) (.int .i64 0) (.int .i64 0) (.int .i64 0) (.int .i64 0) (.int .i64 0) (.slice none 0 0)
        rw [← hwf] at zf kf ⊢
        have y0 : wf.cell? ⟨w.heap.size, 0, none⟩ = some (.int .i64 0) := by rw [cell_blk zf]; rfl
        have y1 : wf.cell? ⟨w.heap.size, 1, none⟩ = some (.string { data := #[] }) := by rw [cell_blk zf]; rfl
        have y2 : wf.cell? ⟨w.heap.size, 2, none⟩ = some (.string { data := #[] }) := by rw [cell_blk zf]; rfl
        have y3 : wf.cell? ⟨w.heap.size, 3, none⟩ = some (.int .i64 0) := by rw [cell_blk zf]; rfl
        have y4 : wf.cell? ⟨w.heap.size, 4, none⟩ = some (.int .i64 0) := by rw [cell_blk zf]; rfl
        have y5 : wf.cell? ⟨w.heap.size, 5, none⟩ = some (.int .i64 0) := by rw [cell_blk zf]; rfl
        have y6 : wf.cell? ⟨w.heap.size, 6, none⟩ = some (.int .i64 0) := by rw [cell_blk zf]; rfl
        have y7 : wf.cell? ⟨w.heap.size, 7, none⟩ = some (.int .i64 0) := by rw [cell_blk zf]; rfl
        have y8 : wf.cell? ⟨w.heap.size, 8, none⟩ = some (.slice none 0 0) := by rw [cell_blk zf]; rfl
        refine bodyPost_ret (v := .tuple #[callA CallV.none (.slice none 0 0), .int .i64 0, .int .i64 R]) (by simp [results, Tryd.results13, go_sem, y0, y1, y2, y3, y4, y5, y6, y7, y8]; rfl) rfl ?_
        rw [HD.out]
        exact ⟨none, 0, rfl, BSl.nil _, D11.out.keep.trans kf (fun x q => .inr (by rw [show x = w.heap.size from q]; exact Nat.le_refl _)), fun x q => by simp [Value.ownBlock] at q⟩

theorem rdec_c {w : World} {v : Value} {b : Bs} (hb : BSl w v b) :
    Calls Tryd.prog 13 #[v] w fun r w' => ∃ a cap, r = .returned (.tuple #[callA (decC b).1 (.slice a (decC b).1.data.length cap), .int .i64 (decC b).2.1, .int .i64 (decC b).2.2]) ∧ BSl w' (.slice a (decC b).1.data.length cap) (decC b).1.data ∧ Keep w w' (fun _ => False) ∧ ∀ x, (Value.slice a (decC b).1.data.length cap).ownBlock = some x → w.heap.size ≤ x := rdec_r (.inl hb)

end Go.Proofs.YtdbkkfhneafeiaaDoor
