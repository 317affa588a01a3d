/-
  CallWrites: the walk.
-/
import Derived.Test.YtdbkkfhneafeiaaDoorCKnown
import Derived.Test.YtdbkkfhneafeiaaDoorCallP
import Derived.Test.YtdbkkfhneafeiaaDoorOEnc
import Derived.Test.YtdbkkfhneafeiaaDoorREnc
import Derived.Test.YtdbkkfhneafeiaaDoorRShow
import Derived.Deep.RegionHeld3
import Derived.Below
namespace Go.Proofs.YtdbkkfhneafeiaaDoor
open Go Go.RowKit Go.Shelf
set_option linter.unusedSectionVars false
set_option linter.unusedSimpArgs false
set_option linter.unusedVariables false
set_option maxRecDepth 100000
attribute [local go_sem] Oper.semAt_some

theorem own_bslW {w : World} {v : Value} {l : Bs} (h : OwnB w v l) : BSl w v l := by
  have h' : w.ownsRow 0 5 1 v (l.map u8V).length (l.map u8V) := by rw [List.length_map]; exact h
  exact rows_bsl h' rfl

set_option maxHeartbeats 16000000 in
theorem cwrites_walk (op : Int) (path tt : ByteArray) (fd fl md n1 m1 : Int) (dat : Bs) (a : Option Addr) (cap : Nat) (why n : Int) (data : Bs) (ns : List Bs) (s0 s1 s2 s3 s4 s5 s6 : Int) (ad an : Option Addr) (capd capn : Nat) (W : World) (ht : Tabs W)
    (h0 : BSr W (.slice a dat.length cap) dat ∧ (path.size ≤ 100000000 ∧ tt.size ≤ 100000000 ∧ dat.length ≤ 100000000) ∧ ∀ x : Fin 5, -9223372036854775808 ≤ CallV.num ⟨op, path, tt, fd, fl, md, n1, m1, dat⟩ x.val ∧ CallV.num ⟨op, path, tt, fd, fl, md, n1, m1, dat⟩ x.val ≤ 9223372036854775807)
    (h1 : BSr W (.slice ad data.length capd) data ∧ data.length ≤ 100000000 ∧ ListIn W (.slice an ns.length capn) (ns.map stV) ∧ ns.length ≤ 2000000 ∧ sumL ns ≤ 100000000 ∧ ∀ z ∈ [why, n, s0, s1, s2, s3, s4, s5, s6], -9223372036854775808 ≤ z ∧ z ≤ 9223372036854775807) :
    Calls Tryd.prog 6 #[.agg #[.int .i64 op, .string path, .string tt, .int .i64 fd, .int .i64 fl, .int .i64 md, .int .i64 n1, .int .i64 m1, .slice a dat.length cap], .agg #[.int .i64 why, .int .i64 n, .slice ad data.length capd, .slice an ns.length capn, .int .i64 s0, .int .i64 s1, .int .i64 s2, .int .i64 s3, .int .i64 s4, .int .i64 s5, .int .i64 s6]] W fun r w' => r = .returned (.bool true) ∧ Below W.heap.size W w' := by
  obtain ⟨W2, hW2⟩ : ∃ W2, W2 = (W.alloc (.cells #[.int .i64 op, .string path, .string tt, .int .i64 fd, .int .i64 fl, .int .i64 md, .int .i64 n1, .int .i64 m1, .slice a dat.length cap] 24)).alloc (.cells #[.int .i64 why, .int .i64 n, .slice ad data.length capd, .slice an ns.length capn, .int .i64 s0, .int .i64 s1, .int .i64 s2, .int .i64 s3, .int .i64 s4, .int .i64 s5, .int .i64 s6] 48) := ⟨_, rfl⟩
  have k1 := Keep.alloc W (.cells #[.int .i64 op, .string path, .string tt, .int .i64 fd, .int .i64 fl, .int .i64 md, .int .i64 n1, .int .i64 m1, .slice a dat.length cap] 24) (fun _ => False)
  have b1 := heap_alloc_eq W (.cells #[.int .i64 op, .string path, .string tt, .int .i64 fd, .int .i64 fl, .int .i64 md, .int .i64 n1, .int .i64 m1, .slice a dat.length cap] 24)
  have z1 : (W.alloc (.cells #[.int .i64 op, .string path, .string tt, .int .i64 fd, .int .i64 fl, .int .i64 md, .int .i64 n1, .int .i64 m1, .slice a dat.length cap] 24)).heap.size = W.heap.size + 1 := by simp
  have k2 := Keep.alloc (W.alloc (.cells #[.int .i64 op, .string path, .string tt, .int .i64 fd, .int .i64 fl, .int .i64 md, .int .i64 n1, .int .i64 m1, .slice a dat.length cap] 24)) (.cells #[.int .i64 why, .int .i64 n, .slice ad data.length capd, .slice an ns.length capn, .int .i64 s0, .int .i64 s1, .int .i64 s2, .int .i64 s3, .int .i64 s4, .int .i64 s5, .int .i64 s6] 48) (fun _ => False)
  have b2 := heap_alloc_eq (W.alloc (.cells #[.int .i64 op, .string path, .string tt, .int .i64 fd, .int .i64 fl, .int .i64 md, .int .i64 n1, .int .i64 m1, .slice a dat.length cap] 24)) (.cells #[.int .i64 why, .int .i64 n, .slice ad data.length capd, .slice an ns.length capn, .int .i64 s0, .int .i64 s1, .int .i64 s2, .int .i64 s3, .int .i64 s4, .int .i64 s5, .int .i64 s6] 48)
  have b3 := k2.get b1 (fun q => q)
  have k3 := k1.trans k2 (fun _ q => q.elim)
  rw [← hW2] at k2 b2 b3 k3
  rw [z1] at b2
  have d1 := h0.1.aside k3
  have d2 := h1.1.aside k3
  have d3 := h1.2.2.1.aside k3
  have CA : callA ⟨op, path, tt, fd, fl, md, n1, m1, dat⟩ (.slice a dat.length cap) = .agg #[.int .i64 op, .string path, .string tt, .int .i64 fd, .int .i64 fl, .int .i64 md, .int .i64 n1, .int .i64 m1, .slice a dat.length cap] := rfl
  have hl := h0.2.1
  have hz := h0.2.2
  have hL : (CallV.path ⟨op, path, tt, fd, fl, md, n1, m1, dat⟩).size ≤ 9223372036854775807 ∧ (CallV.to ⟨op, path, tt, fd, fl, md, n1, m1, dat⟩).size ≤ 9223372036854775807 ∧ (CallV.data ⟨op, path, tt, fd, fl, md, n1, m1, dat⟩).length ≤ 9223372036854775807 := ⟨Nat.le_trans hl.1 (by decide), Nat.le_trans hl.2.1 (by decide), Nat.le_trans hl.2.2 (by decide)⟩
  have he := fun U (k : Keep W2 U (fun _ => False)) => oenc_c ⟨op, path, tt, fd, fl, md, n1, m1, dat⟩ a cap (d1.aside k) hL
  have hre := fun U (k : Keep W2 U (fun _ => False)) => renc_c ⟨op, path, tt, fd, fl, md, n1, m1, dat⟩ a cap (d1.aside k) hL
  have hr1 := fun U (_ : Keep W2 U (fun _ => False)) => oright_c ⟨op, path, tt, fd, fl, md, n1, m1, dat⟩ a cap U hL
  have hr2 := fun U (_ : Keep W2 U (fun _ => False)) => rright_c ⟨op, path, tt, fd, fl, md, n1, m1, dat⟩ a cap U hL
  have ht1 := fun U (k : Keep W2 U (fun _ => False)) => text_c ⟨op, path, tt, fd, fl, md, n1, m1, dat⟩ a cap U (ht.keep (k3.trans k (fun _ q => q.elim))) (d1.aside k) hz hl
  have ht2 := fun U (k : Keep W2 U (fun _ => False)) => rtextC_c ⟨op, path, tt, fd, fl, md, n1, m1, dat⟩ a cap U (d1.aside k) hz hl
  have hs1 := fun U (k : Keep W2 U (fun _ => False)) => show1_c why n data ns s0 s1 s2 s3 s4 s5 s6 ad an capd capn U (ht.keep (k3.trans k (fun _ q => q.elim))) (d2.aside k) h1.2.2.2.2.2 h1.2.1 (d3.aside k) ⟨h1.2.2.2.1, h1.2.2.2.2.1⟩
  have hs2 := fun U (k : Keep W2 U (fun _ => False)) => rshow_c why n data ns s0 s1 s2 s3 s4 s5 s6 ad an capd capn U (d2.aside k) h1.2.2.2.2.2 h1.2.1 (d3.aside k) ⟨Nat.le_trans h1.2.2.2.1 (by decide), h1.2.2.2.2.1⟩
  have hk := fun U (k : Keep W2 U (fun _ => False)) => known_c U (ht.keep (k3.trans k (fun _ q => q.elim)))
  simp only [CA] at he hre hr1 hr2 ht1 ht2
  obtain ⟨gb, hgb⟩ : ∃ gb, gb = W.heap.size := ⟨_, rfl⟩
  obtain ⟨gc, hgc⟩ : ∃ gc, gc = gb + 1 := ⟨_, rfl⟩
  rw [← hgb] at b3
  rw [← hgb, ← hgc] at b2
  have BOX := Lib.hid (show ∀ U, Keep W2 U (fun _ => False) → U.cell? ⟨gb, 0, none⟩ = some (.int .i64 op) ∧ U.cell? ⟨gb, 1, none⟩ = some (.string path) ∧ U.cell? ⟨gb, 2, none⟩ = some (.string tt) ∧ U.cell? ⟨gb, 3, none⟩ = some (.int .i64 fd) ∧ U.cell? ⟨gb, 4, none⟩ = some (.int .i64 fl) ∧ U.cell? ⟨gb, 5, none⟩ = some (.int .i64 md) ∧ U.cell? ⟨gb, 6, none⟩ = some (.int .i64 n1) ∧ U.cell? ⟨gb, 7, none⟩ = some (.int .i64 m1) ∧ U.cell? ⟨gb, 8, none⟩ = some (.slice a dat.length cap) ∧ U.cell? ⟨gc, 0, none⟩ = some (.int .i64 why) ∧ U.cell? ⟨gc, 1, none⟩ = some (.int .i64 n) ∧ U.cell? ⟨gc, 2, none⟩ = some (.slice ad data.length capd) ∧ U.cell? ⟨gc, 3, none⟩ = some (.slice an ns.length capn) ∧ U.cell? ⟨gc, 4, none⟩ = some (.int .i64 s0) ∧ U.cell? ⟨gc, 5, none⟩ = some (.int .i64 s1) ∧ U.cell? ⟨gc, 6, none⟩ = some (.int .i64 s2) ∧ U.cell? ⟨gc, 7, none⟩ = some (.int .i64 s3) ∧ U.cell? ⟨gc, 8, none⟩ = some (.int .i64 s4) ∧ U.cell? ⟨gc, 9, none⟩ = some (.int .i64 s5) ∧ U.cell? ⟨gc, 10, none⟩ = some (.int .i64 s6) from fun U k => by
    have x1 := k.get b3 (fun q => q)
    have x2 := k.get b2 (fun q => q)
    exact ⟨(cell_blk x1 0).trans rfl, (cell_blk x1 1).trans rfl, (cell_blk x1 2).trans rfl, (cell_blk x1 3).trans rfl, (cell_blk x1 4).trans rfl, (cell_blk x1 5).trans rfl, (cell_blk x1 6).trans rfl, (cell_blk x1 7).trans rfl, (cell_blk x1 8).trans rfl, (cell_blk x2 0).trans rfl, (cell_blk x2 1).trans rfl, (cell_blk x2 2).trans rfl, (cell_blk x2 3).trans rfl, (cell_blk x2 4).trans rfl, (cell_blk x2 5).trans rfl, (cell_blk x2 6).trans rfl, (cell_blk x2 7).trans rfl, (cell_blk x2 8).trans rfl, (cell_blk x2 9).trans rfl, (cell_blk x2 10).trans rfl⟩)
  obtain ⟨RR, hRR⟩ : ∃ RR, RR = CallV.right ⟨op, path, tt, fd, fl, md, n1, m1, dat⟩ := ⟨_, rfl⟩
  obtain ⟨TT, hTT⟩ : ∃ TT, TT = strB (textP ⟨op, path, tt, fd, fl, md, n1, m1, dat⟩) := ⟨_, rfl⟩
  obtain ⟨SS, hSS⟩ : ∃ SS, SS = strB (Lib.join (show1L why n data ns s0 s1 s2 s3 s4 s5 s6) [32]) := ⟨_, rfl⟩
  obtain ⟨E, hE⟩ : ∃ E, E = (if RR = 0 then CallV.enc ⟨op, path, tt, fd, fl, md, n1, m1, dat⟩ else []) := ⟨_, rfl⟩
  simp only [← hRR] at hr1 hr2 he hre
  simp only [← hE] at he hre
  simp only [← hTT] at ht1 ht2
  simp only [← hSS] at hs1 hs2
  have K0 := Lib.hid k3
  clear hRR hTT hSS hE k1 b1 z1 k2 b2 b3 k3 d1 d2 d3 CA hl hz hL ht h0 h1
  go_enter Tryd.func6, Tryd.ntmps6
  go_upto_region 1 with (fail)
  rw [← hW2, ← hgb, ← hgc]
  clear hW2 hgb hgc
  obtain ⟨b0, b1, b2, b3, b4, b5, b6, b7, b8, b9, b10, b11, b12, b13, b14, b15, b16, b17, b18, b19⟩ := BOX.out W2 (Keep.refl _ _)
  go_upto_region 3 with (first
    | (go_at_call 18
       with_reducible refine (he _ (Keep.refl _ _)).mono ?_
       rintro e w1 ⟨v1, rfl, q1, q2, q3⟩
       obtain ⟨ax, nx, capx, rfl, -⟩ := q1.val
       obtain ⟨c0, c1, c2, c3, c4, c5, c6, c7, c8, c9, c10, c11, c12, c13, c14, c15, c16, c17, c18, c19⟩ := BOX.out w1 q2
       have N1 := Lib.hid (And.intro q1 q2)
       clear he q1 q2 q3 b0 b1 b2 b3 b4 b5 b6 b7 b8 b9 b10 b11 b12 b13 b14 b15 b16 b17 b18 b19)
    | (go_at_call 9
       with_reducible refine (hre _ N1.out.2).mono ?_
       rintro e w2 ⟨v2, rfl, q1, q2, q3⟩
       obtain ⟨ay, ny, capy, rfl, -⟩ := q1.val
       obtain ⟨d0, d1, d2, d3, d4, d5, d6, d7, d8, d9, d10, d11, d12, d13, d14, d15, d16, d17, d18, d19⟩ := BOX.out w2 (N1.out.2.trans q2 (fun _ q => q.elim))
       have N2 := Lib.hid (And.intro (And.intro ((own_bslW N1.out.1).aside q2) (own_bslW q1)) (N1.out.2.trans q2 (fun _ q => q.elim)))
       clear hre q1 q2 q3 c0 c1 c2 c3 c4 c5 c6 c7 c8 c9 c10 c11 c12 c13 c14 c15 c16 c17 c18 c19))
  obtain ⟨Z, hZ⟩ : ∃ Z, Z = strB E := ⟨_, rfl⟩
  have FX := Lib.hid (show ∀ U, Keep w2 U (fun _ => False) → U.cell? ⟨gb, 0, none⟩ = some (.int .i64 op) ∧ U.cell? ⟨gb, 1, none⟩ = some (.string path) ∧ U.cell? ⟨gb, 2, none⟩ = some (.string tt) ∧ U.cell? ⟨gb, 3, none⟩ = some (.int .i64 fd) ∧ U.cell? ⟨gb, 4, none⟩ = some (.int .i64 fl) ∧ U.cell? ⟨gb, 5, none⟩ = some (.int .i64 md) ∧ U.cell? ⟨gb, 6, none⟩ = some (.int .i64 n1) ∧ U.cell? ⟨gb, 7, none⟩ = some (.int .i64 m1) ∧ U.cell? ⟨gb, 8, none⟩ = some (.slice a dat.length cap) ∧ U.cell? ⟨gc, 0, none⟩ = some (.int .i64 why) ∧ U.cell? ⟨gc, 1, none⟩ = some (.int .i64 n) ∧ U.cell? ⟨gc, 2, none⟩ = some (.slice ad data.length capd) ∧ U.cell? ⟨gc, 3, none⟩ = some (.slice an ns.length capn) ∧ U.cell? ⟨gc, 4, none⟩ = some (.int .i64 s0) ∧ U.cell? ⟨gc, 5, none⟩ = some (.int .i64 s1) ∧ U.cell? ⟨gc, 6, none⟩ = some (.int .i64 s2) ∧ U.cell? ⟨gc, 7, none⟩ = some (.int .i64 s3) ∧ U.cell? ⟨gc, 8, none⟩ = some (.int .i64 s4) ∧ U.cell? ⟨gc, 9, none⟩ = some (.int .i64 s5) ∧ U.cell? ⟨gc, 10, none⟩ = some (.int .i64 s6) ∧ (convert 22 9 (.slice ax nx capx)).run Tryd.prog U = .ok (.string Z) U ∧ (convert 22 9 (.slice ay ny capy)).run Tryd.prog U = .ok (.string Z) U from fun U k => by
    obtain ⟨e0, e1, e2, e3, e4, e5, e6, e7, e8, e9, e10, e11, e12, e13, e14, e15, e16, e17, e18, e19⟩ := BOX.out U (N2.out.2.trans k (fun _ q => q.elim))
    refine ⟨e0, e1, e2, e3, e4, e5, e6, e7, e8, e9, e10, e11, e12, e13, e14, e15, e16, e17, e18, e19, ?_, ?_⟩
    · rw [hZ]; exact str_of 22 9 Tryd.underlying22 Tryd.underlying5 Tryd.underlying9 (N2.out.1.1.aside k)
    · rw [hZ]; exact str_of 22 9 Tryd.underlying22 Tryd.underlying5 Tryd.underlying9 (N2.out.1.2.aside k))
  have KD := Keep.drew w2 (fun _ => False)
  have SD := FX.out _ KD
  obtain ⟨f0, f1, f2, f3, f4, f5, f6, f7, f8, f9, f10, f11, f12, f13, f14, f15, f16, f17, f18, f19, f20, f21⟩ := FX.out w2 (Keep.refl _ _)
  have gZ : (Z.toList == Z.toList) = true := by simp
  have gR : (RR == RR) = true := by simp
  have gT : (TT.toList == TT.toList) = true := by simp
  have gS : (SS.toList == SS.toList) = true := by simp
  clear hZ d0 d1 d2 d3 d4 d5 d6 d7 d8 d9 d10 d11 d12 d13 d14 d15 d16 d17 d18 d19
  (go_region_held3 (fun w' => w'.cell? ⟨gb, 0, none⟩ = some (.int .i64 op) ∧ w'.cell? ⟨gb, 1, none⟩ = some (.string path) ∧ w'.cell? ⟨gb, 2, none⟩ = some (.string tt) ∧ w'.cell? ⟨gb, 3, none⟩ = some (.int .i64 fd) ∧ w'.cell? ⟨gb, 4, none⟩ = some (.int .i64 fl) ∧ w'.cell? ⟨gb, 5, none⟩ = some (.int .i64 md) ∧ w'.cell? ⟨gb, 6, none⟩ = some (.int .i64 n1) ∧ w'.cell? ⟨gb, 7, none⟩ = some (.int .i64 m1) ∧ w'.cell? ⟨gb, 8, none⟩ = some (.slice a dat.length cap) ∧ w'.cell? ⟨gc, 0, none⟩ = some (.int .i64 why) ∧ w'.cell? ⟨gc, 1, none⟩ = some (.int .i64 n) ∧ w'.cell? ⟨gc, 2, none⟩ = some (.slice ad data.length capd) ∧ w'.cell? ⟨gc, 3, none⟩ = some (.slice an ns.length capn) ∧ w'.cell? ⟨gc, 4, none⟩ = some (.int .i64 s0) ∧ w'.cell? ⟨gc, 5, none⟩ = some (.int .i64 s1) ∧ w'.cell? ⟨gc, 6, none⟩ = some (.int .i64 s2) ∧ w'.cell? ⟨gc, 7, none⟩ = some (.int .i64 s3) ∧ w'.cell? ⟨gc, 8, none⟩ = some (.int .i64 s4) ∧ w'.cell? ⟨gc, 9, none⟩ = some (.int .i64 s5) ∧ w'.cell? ⟨gc, 10, none⟩ = some (.int .i64 s6) ∧ (convert 22 9 (.slice ax nx capx)).run Tryd.prog w' = .ok (.string Z) w' ∧ (convert 22 9 (.slice ay ny capy)).run Tryd.prog w' = .ok (.string Z) w') (first | exact SD | exact SK1 | exact SK2 | exact SK3 | exact SK4 | exact SK5 | exact SK6 | exact SK7 | fail) (first
      | (go_at_call 19
         (with_reducible refine (hr1 _ (N2.out.2.trans KD (fun _ q => q.elim))).mono ?_)
         rintro e wK1 ⟨rfl, hK1⟩
         have K1 : Keep w2 wK1 (fun _ => False) := KD.trans hK1 (fun _ q => q.elim)
         have SK1 := FX.out _ K1
         obtain ⟨k1z0, k1z1, k1z2, k1z3, k1z4, k1z5, k1z6, k1z7, k1z8, k1z9, k1z10, k1z11, k1z12, k1z13, k1z14, k1z15, k1z16, k1z17, k1z18, k1z19, k1z20, k1z21⟩ := FX.out _ K1
         clear hK1 )
      | (go_at_call 21
         (with_reducible refine (hr2 _ (N2.out.2.trans K1 (fun _ q => q.elim))).mono ?_)
         rintro e wK2 ⟨rfl, hK2⟩
         have K2 : Keep w2 wK2 (fun _ => False) := K1.trans hK2 (fun _ q => q.elim)
         have SK2 := FX.out _ K2
         obtain ⟨k2z0, k2z1, k2z2, k2z3, k2z4, k2z5, k2z6, k2z7, k2z8, k2z9, k2z10, k2z11, k2z12, k2z13, k2z14, k2z15, k2z16, k2z17, k2z18, k2z19, k2z20, k2z21⟩ := FX.out _ K2
         clear hK2 k1z0 k1z1 k1z2 k1z3 k1z4 k1z5 k1z6 k1z7 k1z8 k1z9 k1z10 k1z11 k1z12 k1z13 k1z14 k1z15 k1z16 k1z17 k1z18 k1z19 k1z20 k1z21)
      | (go_at_call 17
         (with_reducible refine (ht1 _ (N2.out.2.trans K2 (fun _ q => q.elim))).mono ?_)
         rintro e wK3 ⟨rfl, hK3⟩
         have K3 : Keep w2 wK3 (fun _ => False) := K2.trans hK3 (fun _ q => q.elim)
         have SK3 := FX.out _ K3
         obtain ⟨k3z0, k3z1, k3z2, k3z3, k3z4, k3z5, k3z6, k3z7, k3z8, k3z9, k3z10, k3z11, k3z12, k3z13, k3z14, k3z15, k3z16, k3z17, k3z18, k3z19, k3z20, k3z21⟩ := FX.out _ K3
         clear hK3 k2z0 k2z1 k2z2 k2z3 k2z4 k2z5 k2z6 k2z7 k2z8 k2z9 k2z10 k2z11 k2z12 k2z13 k2z14 k2z15 k2z16 k2z17 k2z18 k2z19 k2z20 k2z21)
      | (go_at_call 22
         (with_reducible refine (ht2 _ (N2.out.2.trans K3 (fun _ q => q.elim))).mono ?_)
         rintro e wK4 ⟨rfl, hK4⟩
         have K4 : Keep w2 wK4 (fun _ => False) := K3.trans hK4 (fun _ q => q.elim)
         have SK4 := FX.out _ K4
         obtain ⟨k4z0, k4z1, k4z2, k4z3, k4z4, k4z5, k4z6, k4z7, k4z8, k4z9, k4z10, k4z11, k4z12, k4z13, k4z14, k4z15, k4z16, k4z17, k4z18, k4z19, k4z20, k4z21⟩ := FX.out _ K4
         clear hK4 k3z0 k3z1 k3z2 k3z3 k3z4 k3z5 k3z6 k3z7 k3z8 k3z9 k3z10 k3z11 k3z12 k3z13 k3z14 k3z15 k3z16 k3z17 k3z18 k3z19 k3z20 k3z21)
      | (go_at_call 20
         (with_reducible refine (hs1 _ (N2.out.2.trans K4 (fun _ q => q.elim))).mono ?_)
         rintro e wK5 ⟨rfl, hK5⟩
         have K5 : Keep w2 wK5 (fun _ => False) := K4.trans hK5 (fun _ q => q.elim)
         have SK5 := FX.out _ K5
         obtain ⟨k5z0, k5z1, k5z2, k5z3, k5z4, k5z5, k5z6, k5z7, k5z8, k5z9, k5z10, k5z11, k5z12, k5z13, k5z14, k5z15, k5z16, k5z17, k5z18, k5z19, k5z20, k5z21⟩ := FX.out _ K5
         clear hK5 k4z0 k4z1 k4z2 k4z3 k4z4 k4z5 k4z6 k4z7 k4z8 k4z9 k4z10 k4z11 k4z12 k4z13 k4z14 k4z15 k4z16 k4z17 k4z18 k4z19 k4z20 k4z21)
      | (go_at_call 23
         (with_reducible refine (hs2 _ (N2.out.2.trans K5 (fun _ q => q.elim))).mono ?_)
         rintro e wK6 ⟨rfl, hK6⟩
         have K6 : Keep w2 wK6 (fun _ => False) := K5.trans hK6 (fun _ q => q.elim)
         have SK6 := FX.out _ K6
         obtain ⟨k6z0, k6z1, k6z2, k6z3, k6z4, k6z5, k6z6, k6z7, k6z8, k6z9, k6z10, k6z11, k6z12, k6z13, k6z14, k6z15, k6z16, k6z17, k6z18, k6z19, k6z20, k6z21⟩ := FX.out _ K6
         clear hK6 k5z0 k5z1 k5z2 k5z3 k5z4 k5z5 k5z6 k5z7 k5z8 k5z9 k5z10 k5z11 k5z12 k5z13 k5z14 k5z15 k5z16 k5z17 k5z18 k5z19 k5z20 k5z21)
      | (go_at_call 16
         (with_reducible refine (hk _ (N2.out.2.trans K6 (fun _ q => q.elim))).mono ?_)
         rintro e wK7 ⟨rfl, hK7⟩
         have K7 : Keep w2 wK7 (fun _ => False) := K6.trans hK7 (fun _ q => q.elim)
         have SK7 := FX.out _ K7
         obtain ⟨k7z0, k7z1, k7z2, k7z3, k7z4, k7z5, k7z6, k7z7, k7z8, k7z9, k7z10, k7z11, k7z12, k7z13, k7z14, k7z15, k7z16, k7z17, k7z18, k7z19, k7z20, k7z21⟩ := FX.out _ K7
         clear hK7 k6z0 k6z1 k6z2 k6z3 k6z4 k6z5 k6z6 k6z7 k6z8 k6z9 k6z10 k6z11 k6z12 k6z13 k6z14 k6z15 k6z16 k6z17 k6z18 k6z19 k6z20 k6z21)))
  go_wp2
  go_ret
  exact ⟨rfl, Keep.below (K0.out.trans (N2.out.2.trans K7 (fun _ q => q.elim)) (fun _ q => q.elim)) (Nat.le_refl _) (fun b q => q.elim)⟩

end Go.Proofs.YtdbkkfhneafeiaaDoor
