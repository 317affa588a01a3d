/-
  Calls are written as the document says (Encode).
-/
import Derived.Test.YtdbkkfhneafeiaaDoorREnc0
import Derived.Test.YtdbkkfhneafeiaaDoorRight0
import Derived.Deep.RegionHeld3
namespace Go.Proofs.YtdbkkfhneafeiaaDoor
open Go Go.RowKit
set_option linter.unusedSectionVars false
set_option linter.unusedSimpArgs false
set_option linter.unusedVariables false
set_option maxRecDepth 100000

/-- A text more, onto what is new since w1. -/
theorem wtxt_g {w1 U : World} {v : Value} {l : Bs} (s : ByteArray) (h : OwnB U v l) (k : Keep w1 U (fun _ => False)) (hn : ∀ b, v.ownBlock = some b → w1.heap.size ≤ b) (hl : l.length ≤ 1000000000) (hs : s.size ≤ 70000) :
    Calls Tryd.prog 24 #[v, .string s] U fun r w' => ∃ a n cap, r = .returned (.slice a n cap) ∧ OwnB w' (.slice a n cap) (l ++ txt (bsOf s)) ∧ Keep w1 w' (fun _ => False) ∧ ∀ b, (Value.slice a n cap).ownBlock = some b → w1.heap.size ≤ b := by
  refine (wtxt_c s h hl hs).mono ?_
  rintro e w' ⟨a, n, cap, rfl, q1, q2, q3⟩
  have := k.size
  refine ⟨a, n, cap, rfl, q1, k.trans q2 (fun b q => .inr (hn b q.symm)), fun b q => ?_⟩
  rcases q3 b q with z | z
  · exact hn b z
  · omega

theorem wfour_g {w1 U : World} {v : Value} {l : Bs} (z : Int) (h : OwnB U v l) (k : Keep w1 U (fun _ => False)) (hn : ∀ b, v.ownBlock = some b → w1.heap.size ≤ b) (hl : l.length ≤ 1000000000) :
    Calls Tryd.prog 25 #[v, .int .i64 z] U fun r w' => ∃ a n cap, r = .returned (.slice a n cap) ∧ OwnB w' (.slice a n cap) (l ++ be4 z) ∧ Keep w1 w' (fun _ => False) ∧ ∀ b, (Value.slice a n cap).ownBlock = some b → w1.heap.size ≤ b := by
  refine (wfour_c z h hl).mono ?_
  rintro e w' ⟨a, n, cap, rfl, q1, q2, q3⟩
  have := k.size
  refine ⟨a, n, cap, rfl, q1, k.trans q2 (fun b q => .inr (hn b q.symm)), fun b q => ?_⟩
  rcases q3 b q with z | z
  · exact hn b z
  · omega

theorem be4_len (z : Int) : (be4 z).length = 4 := rfl

set_option maxRecDepth 100000 in
set_option maxHeartbeats 8000000 in
theorem renc_c {w : World} (c : CallV) (a0 : Option Addr) (cap0 : Nat) (hd : BSr w (.slice a0 c.data.length cap0) c.data) (hl : c.path.size ≤ 9223372036854775807 ∧ c.to.size ≤ 9223372036854775807 ∧ c.data.length ≤ 9223372036854775807) :
    Calls Tryd.prog 9 #[callA c (.slice a0 c.data.length cap0)] w fun r w' => ∃ v', r = .returned (.tuple #[v', .int .i64 c.right]) ∧ OwnB w' v' (if c.right = 0 then c.enc else []) ∧ Keep w w' (fun _ => False) ∧ ∀ b, v'.ownBlock = some b → w.heap.size ≤ b := by
  have hr := fun (U : World) => rright_c c a0 cap0 U hl
  obtain ⟨R, hR⟩ : ∃ R, R = c.right := ⟨_, rfl⟩
  have HF := Lib.hid (fun q : c.right = 0 => And.intro (CallV.fits_of q) (show 1 ≤ c.op ∧ c.op ≤ 20 by
    have := fun q' => right_op (c := c) q'
    omega))
  rw [← hR] at hr HF ⊢
  have HC := Lib.hid (And.intro hR hd)
  clear hR hd
  have henc : c.enc = (([byte c.op.toNat] ++ txt (bsOf c.path)) ++ txt (bsOf c.to)) ++ be4 c.fd ++ be4 c.flags ++ be4 c.mode ++ be4 c.n ++ be4 c.m ++ txt (bsOf (strB c.data)) := by
    rw [bsOf_strB]
    unfold CallV.enc CallV.nums
    simp only [List.append_assoc, List.cons_append, List.nil_append]
  have HE := Lib.hid henc
  clear henc
  have kA := fun o => Keep.alloc w o (fun _ => False)
  obtain ⟨ce, hce⟩ : ∃ ce, ce = c.enc := ⟨_, rfl⟩
  rw [← hce] at HE ⊢
  clear hce
  obtain ⟨op, path, tt, fd, fl, md, n2, m2, dat⟩ := c
  simp only [callA] at hr HF HC HE hl ⊢
  go_enter Tryd.func9, Tryd.ntmps9
  by_cases hz : R = 0
  · subst hz
    have hfit := HF.out rfl
    have hop : op % 256 = op := by omega
    go_upto_region 4 with (
      go_at_call 21
      refine (hr _).mono ?_
      rintro e w1 ⟨rfl, hk1⟩
      have hb1 := hk1.get (heap_alloc_eq w _) (fun q => q)
      have d0 := cell_blk hb1 0
      have d1 := cell_blk hb1 1
      have d2 := cell_blk hb1 2
      have d3 := cell_blk hb1 3
      have d4 := cell_blk hb1 4
      have d5 := cell_blk hb1 5
      have d6 := cell_blk hb1 6
      have d7 := cell_blk hb1 7
      have d8 := cell_blk hb1 8
      simp only [List.getElem?_toArray, List.getElem?_cons_zero, List.getElem?_cons_succ] at d0 d1 d2 d3 d4 d5 d6 d7 d8
      have W1 := Lib.hid (And.intro ((kA _).trans hk1 (fun _ q => q.elim)) (lt_of_blk hb1))
      clear hk1 hb1 hr)
    have hopw : IntKind.u8.wrap op = op := by
      unfold IntKind.wrap
      simp only [IntKind.signed, IntKind.bits, Bool.false_and, Bool.false_eq_true, if_false]
      exact hop
    have hcs : #[Value.int .u8 op] = (([byte op.toNat] : Bs).map u8V).toArray := by unfold u8V; simp only [List.map_cons, List.map_nil, byte_toNat]; congr; omega
    have hpl : path.size < 65536 := hfit.1.path
    have htl : tt.size ≤ 70000 := by have := hfit.1.to; simp only at this; omega
    have hdl : dat.length ≤ 70000 := by have := hfit.1.data; simp only at this; omega
    have hO1 : OwnB (w1.alloc (.cells #[.int .u8 op] 5)).drew (.slice (some ⟨w1.heap.size, 0, none⟩) 1 1) [byte op.toNat] := rows_keep (ownB_new w1 _ hcs (by simp) (m := 1) rfl rfl) (Keep.drew _ (fun _ => False)) (fun _ _ q => q)
    have k1 : Keep w1 (w1.alloc (.cells #[.int .u8 op] 5)).drew (fun _ => False) := (Keep.alloc w1 _ (fun _ => False)).trans (Keep.drew _ (fun _ => False)) (fun _ q => q.elim)
    have ht1 := wtxt_g path hO1 k1 (fun b q => by simp [Value.ownBlock] at q; omega) (by simp) (by omega)
    have HL := Lib.hid (And.intro (bsOf_len path) (bsOf_len tt))
    clear hO1 k1 hcs
    have hb2 : ([byte op.toNat] ++ txt (bsOf path)).length ≤ 70000 := by unfold txt be2; simp only [List.length_append, List.length_cons, List.length_nil, HL.out.1]; have := hfit.1.path; simp only at this; omega
    have ne1 : ¬ w.heap.size = w1.heap.size := by have := W1.out.2; omega
    have ne1' : ¬ w1.heap.size = w.heap.size := fun q => ne1 q.symm
    go_region_held3 (fun w' => w'.cell? ⟨w.heap.size, 0, none⟩ = some (.int .i64 op) ∧ w'.cell? ⟨w.heap.size, 1, none⟩ = some (.string path) ∧ w'.cell? ⟨w.heap.size, 2, none⟩ = some (.string tt)) (go_keep) (first
      | (go_at_call 24
         (with_reducible refine ht1.mono ?_)
         rintro e w3 ⟨a3, n3, cap3, rfl, q1, q2, q3⟩
         have i0 := q2.cell (b := w.heap.size) (i := 0) d0 (fun q => q)
         have i1 := q2.cell (b := w.heap.size) (i := 1) d1 (fun q => q)
         have i2 := q2.cell (b := w.heap.size) (i := 2) d2 (fun q => q)
         have ht2 := wtxt_g tt q1 q2 q3 (by omega) htl
         clear q1 q2 q3 ht1)
      | (go_at_call 24
         (with_reducible refine ht2.mono ?_)
         rintro e w4 ⟨a4, n4, cap4, rfl, q1, q2, q3⟩
         have j0 := q2.cell (b := w.heap.size) (i := 0) d0 (fun q => q)
         have j1 := q2.cell (b := w.heap.size) (i := 1) d1 (fun q => q)
         have j2 := q2.cell (b := w.heap.size) (i := 2) d2 (fun q => q)
         have N4 := Lib.hid (And.intro q1 (And.intro q2 q3))
         clear q1 q2 q3 ht2))
    have hb4 : (([byte op.toNat] ++ txt (bsOf path)) ++ txt (bsOf tt)).length ≤ 200000 := by
      rw [List.length_append]
      have : (txt (bsOf tt)).length = 2 + tt.size := by unfold txt be2; rw [List.length_append, HL.out.2]; rfl
      omega
    have hf3 := wfour_g fd (rows_keep N4.out.1 (Keep.drew w4 (fun _ => False)) (fun _ _ q => q)) (N4.out.2.1.trans (Keep.drew w4 (fun _ => False)) (fun _ q => q.elim)) N4.out.2.2 (by omega)
    clear i0 i1 i2 j0 j1 j2 d0 d1 d2
    have i3 := N4.out.2.1.cell (b := w.heap.size) (i := 3) d3 (fun q => q)
    have i4 := N4.out.2.1.cell (b := w.heap.size) (i := 4) d4 (fun q => q)
    have i5 := N4.out.2.1.cell (b := w.heap.size) (i := 5) d5 (fun q => q)
    have i6 := N4.out.2.1.cell (b := w.heap.size) (i := 6) d6 (fun q => q)
    have i7 := N4.out.2.1.cell (b := w.heap.size) (i := 7) d7 (fun q => q)
    generalize ([byte op.toNat] ++ txt (bsOf path)) ++ txt (bsOf tt) = l4 at *
    go_wp2
    go_region_held3 (fun w' => w'.cell? ⟨w.heap.size, 3, none⟩ = some (.int .i64 fd) ∧ w'.cell? ⟨w.heap.size, 4, none⟩ = some (.int .i64 fl) ∧ w'.cell? ⟨w.heap.size, 5, none⟩ = some (.int .i64 md) ∧ w'.cell? ⟨w.heap.size, 6, none⟩ = some (.int .i64 n2) ∧ w'.cell? ⟨w.heap.size, 7, none⟩ = some (.int .i64 m2)) (go_keep) (first
      | (go_at_call 25
         (with_reducible refine hf3.mono ?_)
         rintro e w5 ⟨a5, n5, cap5, rfl, q1, q2, q3⟩
         have az3 := q2.cell (b := w.heap.size) (i := 3) d3 (fun q => q)
         have az4 := q2.cell (b := w.heap.size) (i := 4) d4 (fun q => q)
         have az5 := q2.cell (b := w.heap.size) (i := 5) d5 (fun q => q)
         have az6 := q2.cell (b := w.heap.size) (i := 6) d6 (fun q => q)
         have az7 := q2.cell (b := w.heap.size) (i := 7) d7 (fun q => q)
         have hf4 := wfour_g fl q1 q2 q3 (by simp only [List.length_append, be4_len]; omega)
         clear q1 q2 q3 hf3)
      | (go_at_call 25
         (with_reducible refine hf4.mono ?_)
         rintro e w6 ⟨a6, n6, cap6, rfl, q1, q2, q3⟩
         have bz3 := q2.cell (b := w.heap.size) (i := 3) d3 (fun q => q)
         have bz4 := q2.cell (b := w.heap.size) (i := 4) d4 (fun q => q)
         have bz5 := q2.cell (b := w.heap.size) (i := 5) d5 (fun q => q)
         have bz6 := q2.cell (b := w.heap.size) (i := 6) d6 (fun q => q)
         have bz7 := q2.cell (b := w.heap.size) (i := 7) d7 (fun q => q)
         have hf5 := wfour_g md q1 q2 q3 (by simp only [List.length_append, be4_len]; omega)
         clear q1 q2 q3 hf4)
      | (go_at_call 25
         (with_reducible refine hf5.mono ?_)
         rintro e w7 ⟨a7, n7, cap7, rfl, q1, q2, q3⟩
         have cz3 := q2.cell (b := w.heap.size) (i := 3) d3 (fun q => q)
         have cz4 := q2.cell (b := w.heap.size) (i := 4) d4 (fun q => q)
         have cz5 := q2.cell (b := w.heap.size) (i := 5) d5 (fun q => q)
         have cz6 := q2.cell (b := w.heap.size) (i := 6) d6 (fun q => q)
         have cz7 := q2.cell (b := w.heap.size) (i := 7) d7 (fun q => q)
         have hf6 := wfour_g n2 q1 q2 q3 (by simp only [List.length_append, be4_len]; omega)
         clear q1 q2 q3 hf5)
      | (go_at_call 25
         (with_reducible refine hf6.mono ?_)
         rintro e w8 ⟨a8, n8, cap8, rfl, q1, q2, q3⟩
         have dz3 := q2.cell (b := w.heap.size) (i := 3) d3 (fun q => q)
         have dz4 := q2.cell (b := w.heap.size) (i := 4) d4 (fun q => q)
         have dz5 := q2.cell (b := w.heap.size) (i := 5) d5 (fun q => q)
         have dz6 := q2.cell (b := w.heap.size) (i := 6) d6 (fun q => q)
         have dz7 := q2.cell (b := w.heap.size) (i := 7) d7 (fun q => q)
         have hf7 := wfour_g m2 q1 q2 q3 (by simp only [List.length_append, be4_len]; omega)
         clear q1 q2 q3 hf6)
      | (go_at_call 25
         (with_reducible refine hf7.mono ?_)
         rintro e w9 ⟨a9, n9, cap9, rfl, q1, q2, q3⟩
         have ez3 := q2.cell (b := w.heap.size) (i := 3) d3 (fun q => q)
         have ez4 := q2.cell (b := w.heap.size) (i := 4) d4 (fun q => q)
         have ez5 := q2.cell (b := w.heap.size) (i := 5) d5 (fun q => q)
         have ez6 := q2.cell (b := w.heap.size) (i := 6) d6 (fun q => q)
         have ez7 := q2.cell (b := w.heap.size) (i := 7) d7 (fun q => q)
         have N9 := Lib.hid (And.intro q1 (And.intro q2 q3))
         clear q1 q2 q3 hf7))
    have hb9 : (l4 ++ be4 fd ++ be4 fl ++ be4 md ++ be4 n2 ++ be4 m2).length ≤ 300000 := by simp only [List.length_append, be4_len]; omega
    have hcv := str_ofr (P := Tryd.prog) 22 9 Tryd.underlying22 Tryd.underlying5 Tryd.underlying9 ((HC.out.2.aside W1.out.1).aside N9.out.2.1)
    have k8 := N9.out.2.1.cell (b := w.heap.size) (i := 8) d8 (fun q => q)
    have htx := wtxt_g (strB dat) N9.out.1 N9.out.2.1 N9.out.2.2 (by omega) (by rw [strB_size]; omega)
    rw [← HE.out] at htx
    go_wp2_with (
      go_at_call 24
      refine htx.mono ?_
      rintro e w10 ⟨a10, n10, cap10, rfl, q1, q2, q3⟩
      have N := Lib.hid (And.intro q1 (And.intro q2 q3))
      clear q1 q2 q3 htx)
    refine bodyPost_ret (results_tmp2 rfl _ _ _) rfl ⟨.slice a10 n10 cap10, rfl, ?_, W1.out.1.trans N.out.2.1 (fun _ q => q.elim), fun b q => by have := N.out.2.2 b q; have := W1.out.2; omega⟩
    first | exact N.out.1 | (rw [if_pos rfl]; exact N.out.1)
  · have g0 : (R != 0) = true := by simpa using hz
    have HN := Lib.hid hz
    clear hz
    go_wp2_with (
      go_at_call 21
      refine (hr _).mono ?_
      rintro e w1 ⟨rfl, hk1⟩)
    refine bodyPost_ret (results_tmp2 rfl _ _ _) rfl ⟨.slice none 0 0, rfl, ?_, (kA _).trans hk1 (fun _ q => q.elim), fun b q => by simp [Value.ownBlock] at q⟩
    first | exact rows_nil _ _ _ | (rw [if_neg HN.out]; exact rows_nil _ _ _)

end Go.Proofs.YtdbkkfhneafeiaaDoor
