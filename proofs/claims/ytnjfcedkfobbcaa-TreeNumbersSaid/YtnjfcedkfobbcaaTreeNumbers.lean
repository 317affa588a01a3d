/-
  TreeNumbers: the walk.
-/
import Derived.Test.YtnjfcedkfobbcaaTreeCur
import Derived.Test.YtnjfcedkfobbcaaTexts
namespace Go.Proofs.Ytnjfcedkfobbcaa
open Go Go.RowKit Go.Shelf
set_option linter.unusedSectionVars false
set_option linter.unusedSimpArgs false
set_option linter.unusedVariables false
set_option maxRecDepth 100000

theorem make_q {W w : World} {tb : Nat} {s : TShape} {T : TreeV} {bl k : Int} (c : TCur W w tb s T bl k) (hk : k ≤ 900000) {key : ByteArray} {r : Bool} (hr : RightIs key r) (d kind mode uid gid : Int) (text : ByteArray) {n e : Int} {U : TreeV} (hv : (T.make r d key kind (maskV mode) uid gid text).2 = (n, e)) (hU : (T.make r d key kind (maskV mode) uid gid text).1 = U) (w1 : World) (K : Keep w w1 (fun _ => False)) :
    Calls Try.prog 11 #[.pointer (some ⟨tb, 0, none⟩), .int .i64 d, .string key, .agg #[.int .i64 0, .int .i64 kind, .int .i64 mode, .int .i64 uid, .int .i64 gid, .int .i64 0, .int .i64 0], .string text] w1 fun a w2 => a = .returned (.tuple #[.int .i64 n, .int .i64 e]) ∧
      ∃ s', TCur W w2 tb s' U bl (k + 3) ∧ TurnT w1 s w2 s' := by
  have h := make_t c hk hr d ⟨0, kind, mode, uid, gid, 0, 0⟩ text w1 K
  simp only [statC] at h
  rw [hv, hU] at h
  exact h

def B0 : TreeV := TreeV.new 64 4
def B1 : TreeV := (B0.make true 1 ⟨#[100]⟩ 1 (maskV 8191) 0 0 ByteArray.empty).1
theorem b1 : (B0.make true 1 ⟨#[100]⟩ 1 (maskV 8191) 0 0 ByteArray.empty).2 = (2, 0) := by decide +kernel
def B2 : TreeV := (B1.make true 2 ⟨#[102]⟩ 2 (maskV 420) 3 4 ByteArray.empty).1
theorem b2 : (B1.make true 2 ⟨#[102]⟩ 2 (maskV 420) 3 4 ByteArray.empty).2 = (3, 0) := by decide +kernel
def B3 : TreeV := (B2.make true 1 ⟨#[108]⟩ 3 (maskV 0) 0 0 ⟨#[100, 47, 102]⟩).1
theorem b3 : (B2.make true 1 ⟨#[108]⟩ 3 (maskV 0) 0 0 ⟨#[100, 47, 102]⟩).2 = (4, 0) := by decide +kernel
def B4 : TreeV := (B3.make true 1 ⟨#[120]⟩ 2 (maskV 0) 0 0 ⟨#[116, 101, 120, 116]⟩).1
theorem b4 : (B3.make true 1 ⟨#[120]⟩ 2 (maskV 0) 0 0 ⟨#[116, 101, 120, 116]⟩).2 = (0, 1) := by decide +kernel
def B5 : TreeV := (B4.make false 1 ⟨#[46, 46]⟩ 2 (maskV 0) 0 0 ByteArray.empty).1
theorem b5 : (B4.make false 1 ⟨#[46, 46]⟩ 2 (maskV 0) 0 0 ByteArray.empty).2 = (0, 1) := by decide +kernel
def B6 : TreeV := (B5.join true 1 ⟨#[101]⟩ 2).1
theorem b6 : (B5.join true 1 ⟨#[101]⟩ 2).2 = 1 := by decide +kernel
def B7 : TreeV := (B6.join true 1 ⟨#[101]⟩ 3).1
theorem b7 : (B6.join true 1 ⟨#[101]⟩ 3).2 = 0 := by decide +kernel
def B8 : TreeV := (B7.move true 1 ⟨#[100]⟩ 2 ⟨#[120]⟩).1
theorem b8 : (B7.move true 1 ⟨#[100]⟩ 2 ⟨#[120]⟩).2 = 39 := by decide +kernel
def B9 : TreeV := (B8.move true 1 ⟨#[101]⟩ 2 ⟨#[102]⟩).1
theorem b9 : (B8.move true 1 ⟨#[101]⟩ 2 ⟨#[102]⟩).2 = 0 := by decide +kernel
def B10 : TreeV := (B9.part 1 ⟨#[100]⟩).1
theorem b10 : (B9.part 1 ⟨#[100]⟩).2 = 47 := by decide +kernel
def B11 : TreeV := (B10.move true 1 ⟨#[108]⟩ 1 ⟨#[100]⟩).1
theorem b11 : (B10.move true 1 ⟨#[108]⟩ 1 ⟨#[100]⟩).2 = 38 := by decide +kernel
def B12 : TreeV := (B11.loose 3).1
theorem b12 : (B11.loose 3).2 = 16 := by decide +kernel
theorem bs3 : B12.stat 3 = (⟨3, 2, 420, 3, 4, 2, 0⟩, true) := by kernel_rfl
theorem bs1 : B12.stat 1 = (⟨1, 1, 493, 0, 0, 3, 3⟩, true) := by kernel_rfl
theorem bs4 : B12.stat 4 = (⟨4, 3, 0, 0, 0, 1, 3⟩, true) := by kernel_rfl
theorem bs2 : B12.stat 2 = (⟨2, 1, 4095, 0, 0, 2, 1⟩, true) := by kernel_rfl
theorem bt4 : B12.textOf 4 = ⟨#[100, 47, 102]⟩ := by decide +kernel
theorem bu2 : B12.upOf 2 = 1 := by decide +kernel
theorem bu3 : B12.upOf 3 = 0 := by decide +kernel
theorem bleft : B12.left = 60 := by decide +kernel
theorem bn0 : (B12.dir 1).map (fun x => x.names.map Prod.fst) = some [⟨#[100]⟩, ⟨#[108]⟩, ⟨#[101]⟩] := by decide +kernel
theorem bn1 : B12.namesAt 1 = [⟨#[100]⟩, ⟨#[101]⟩, ⟨#[108]⟩] := by
  unfold TreeV.namesAt
  have h := bn0
  cases hq : B12.dir 1 with
  | none => rw [hq] at h; cases h
  | some x =>
    rw [hq] at h
    simp only [Option.map_some, Option.some.injEq] at h
    show sortS (x.names.map Prod.fst) = _
    rw [h]
    exact sortS_eq (show List.Pairwise (fun a b => leL (bl a) (bl b) = true) _ by decide +kernel) (by decide +kernel)
theorem eq1 (w : World) : (binOp .eql 28 (.agg #[.int .i64 3, .int .i64 2, .int .i64 420, .int .i64 3, .int .i64 4, .int .i64 2, .int .i64 0]) (.agg #[.int .i64 3, .int .i64 2, .int .i64 420, .int .i64 3, .int .i64 4, .int .i64 2, .int .i64 0])).run Try.prog w = .ok (.bool true) w := by kernel_rfl
theorem eq2 (w : World) : (binOp .eql 28 (.agg #[.int .i64 1, .int .i64 1, .int .i64 493, .int .i64 0, .int .i64 0, .int .i64 3, .int .i64 3]) (.agg #[.int .i64 1, .int .i64 1, .int .i64 493, .int .i64 0, .int .i64 0, .int .i64 3, .int .i64 3])).run Try.prog w = .ok (.bool true) w := by kernel_rfl
theorem built3 (w : World) (a b c : ByteArray) : ListIn (w.alloc (.cells #[.string a, .string b, .string c] 9)) (.slice (some ⟨w.heap.size, 0, none⟩) 3 3) (([a, b, c] : List ByteArray).map Value.string) := by
  refine ⟨_, _, rfl, .inr ⟨w.heap.size, 0, rfl, by simp, fun i u hi => ?_⟩⟩
  rw [cell_blk (heap_alloc_eq w _), Nat.zero_add]
  simpa using hi
theorem rn0 : RightIs ⟨#[46, 46]⟩ false := rightIs (l := [46, 46]) (by decide +kernel)
theorem rn1 : RightIs ⟨#[100]⟩ true := rightIs (l := [100]) (by decide +kernel)
theorem rn2 : RightIs ⟨#[101]⟩ true := rightIs (l := [101]) (by decide +kernel)
theorem rn3 : RightIs ⟨#[102]⟩ true := rightIs (l := [102]) (by decide +kernel)
theorem rn4 : RightIs ⟨#[108]⟩ true := rightIs (l := [108]) (by decide +kernel)
theorem rn5 : RightIs ⟨#[120]⟩ true := rightIs (l := [120]) (by decide +kernel)

set_option maxHeartbeats 1600000 in
theorem tnumbers_walk (w : World) : Calls Try.prog 8 #[] w fun r w' => r = .returned (.bool true) ∧ Below w.heap.size w w' := by
  have hA := tnew_bad w 0 0 (.inl (by decide))
  go_enter Try.func8, Try.ntmps8
  go_wp2_with (first
    | (go_at_call 9
       refine hA.mono ?_
       rintro e w1 ⟨rfl, k1⟩
       have KA := Lib.hid k1
       have hB := tnew_bad w1 1 257 (.inr (.inr (.inr (by decide))))
       clear hA k1)
    | (go_at_call 9
       refine hB.mono ?_
       rintro e w1 ⟨rfl, k1⟩
       have KB := Lib.hid (KA.out.aside k1)
       have h0 := newt_c KB.out 64 4 ⟨by decide, by decide⟩ ⟨by decide, by decide⟩
       clear hB k1)
    | (go_at_call 9
       refine h0.mono ?_
       rintro e w1 ⟨tb, s0, rfl, c0, -⟩
       replace c0 : TCur w _ tb s0 B0 4 1 := c0
       have h1 := make_q c0 (by decide) rn1 1 1 8191 0 0 ByteArray.empty b1 (U := B1) rfl
       clear h0)
    | (go_at_call 11
       refine (h1 _ (Keep.refl _ _)).mono ?_
       rintro e w1 ⟨rfl, s1, c1, -⟩
       replace c1 : TCur w _ tb s1 B1 4 4 := c1
       have h2 := make_q c1 (by decide) rn3 2 2 420 3 4 ByteArray.empty b2 (U := B2) rfl
       clear h1 c0)
    | (go_at_call 11
       refine (h2 _ (Keep.refl _ _)).mono ?_
       rintro e w1 ⟨rfl, s2, c2, -⟩
       replace c2 : TCur w _ tb s2 B2 4 7 := c2
       have h3 := make_q c2 (by decide) rn4 1 3 0 0 0 ⟨#[100, 47, 102]⟩ b3 (U := B3) rfl
       clear h2 c1)
    | (go_at_call 11
       refine (h3 _ (Keep.refl _ _)).mono ?_
       rintro e w1 ⟨rfl, s3, c3, -⟩
       replace c3 : TCur w _ tb s3 B3 4 10 := c3
       have h4 := make_q c3 (by decide) rn5 1 2 0 0 0 ⟨#[116, 101, 120, 116]⟩ b4 (U := B4) rfl
       clear h3 c2)
    | (go_at_call 11
       refine (h4 _ (Keep.refl _ _)).mono ?_
       rintro e w1 ⟨rfl, s4, c4, -⟩
       replace c4 : TCur w _ tb s4 B4 4 13 := c4
       have h5 := make_q c4 (by decide) rn0 1 2 0 0 0 ByteArray.empty b5 (U := B5) rfl
       clear h4 c3)
    | (go_at_call 11
       refine (h5 _ (Keep.refl _ _)).mono ?_
       rintro e w1 ⟨rfl, s5, c5, -⟩
       replace c5 : TCur w _ tb s5 B5 4 16 := c5
       have h6 := join_t c5 (by decide) rn2 1 2
       rw [b6] at h6
       clear h5 c4)
    | (go_at_call 24
       refine (h6 _ (Keep.refl _ _)).mono ?_
       rintro e w1 ⟨rfl, s6, c6, -⟩
       replace c6 : TCur w _ tb s6 B6 4 19 := c6
       have h7 := join_t c6 (by decide) rn2 1 3
       rw [b7] at h7
       clear h6 c5)
    | (go_at_call 24
       refine (h7 _ (Keep.refl _ _)).mono ?_
       rintro e w1 ⟨rfl, s7, c7, -⟩
       replace c7 : TCur w _ tb s7 B7 4 22 := c7
       have h8 := move_t c7 (by decide) rn5 1 ⟨#[100]⟩ 2
       rw [b8] at h8
       clear h7 c6)
    | (go_at_call 15
       refine (h8 _ (Keep.refl _ _)).mono ?_
       rintro e w1 ⟨rfl, s8, c8, -⟩
       replace c8 : TCur w _ tb s8 B8 4 25 := c8
       have h9 := move_t c8 (by decide) rn3 1 ⟨#[101]⟩ 2
       rw [b9] at h9
       clear h8 c7)
    | (go_at_call 15
       refine (h9 _ (Keep.refl _ _)).mono ?_
       rintro e w1 ⟨rfl, s9, c9, -⟩
       replace c9 : TCur w _ tb s9 B9 4 28 := c9
       have h10 := part_t c9 (by decide) 1 ⟨#[100]⟩
       rw [b10] at h10
       clear h9 c8)
    | (go_at_call 17
       refine (h10 _ (Keep.refl _ _)).mono ?_
       rintro e w1 ⟨rfl, s10, c10, -⟩
       replace c10 : TCur w _ tb s10 B10 4 31 := c10
       have h11 := move_t c10 (by decide) rn1 1 ⟨#[108]⟩ 1
       rw [b11] at h11
       clear h10 c9)
    | (go_at_call 15
       refine (h11 _ (Keep.refl _ _)).mono ?_
       rintro e w1 ⟨rfl, s11, c11, -⟩
       replace c11 : TCur w _ tb s11 B11 4 34 := c11
       have h12 := loose_t c11 (by decide) 3
       rw [b12] at h12
       clear h11 c10)
    | (go_at_call 21
       refine (h12 _ (Keep.refl _ _)).mono ?_
       rintro e w1 ⟨rfl, s12, c12, -⟩
       replace c12 : TCur w _ tb s12 B12 4 37 := c12
       have C := Lib.hid c12
       have q1 := stat_p c12 (by decide) 3 bs3
       clear h12 c11
       clear c12)
    | (go_at_call 14
       refine (q1 _ (Keep.refl _ _)).mono ?_
       rintro e wq1 ⟨rfl, k1⟩
       have C1 := Lib.hid ((C.out.step k1).step (Keep.alloc wq1 (.cells #[.int .i64 3, .int .i64 2, .int .i64 420, .int .i64 3, .int .i64 4, .int .i64 2, .int .i64 0] 28) _))
       have y1 := StatAt.mk (w := wq1.alloc (.cells #[.int .i64 3, .int .i64 2, .int .i64 420, .int .i64 3, .int .i64 4, .int .i64 2, .int .i64 0] 28)) (b := wq1.heap.size) (x := ⟨3, 2, 420, 3, 4, 2, 0⟩) (heap_alloc_eq wq1 _)
       have q2 := stat_p C1.out (by decide) 1 bs1
       have Y1 := Lib.hid y1
       clear q1 k1 y1)
    | (go_at_call 14
       refine (q2 _ (Keep.refl _ _)).mono ?_
       rintro e wq2 ⟨rfl, k2⟩
       have C2 := Lib.hid ((C1.out.step k2).step (Keep.alloc wq2 (.cells #[.int .i64 1, .int .i64 1, .int .i64 493, .int .i64 0, .int .i64 0, .int .i64 3, .int .i64 3] 28) _))
       have Y2 := Lib.hid (And.intro (StatAt.mk ((Keep.alloc wq2 (.cells #[.int .i64 1, .int .i64 1, .int .i64 493, .int .i64 0, .int .i64 0, .int .i64 3, .int .i64 3] 28) (fun _ => False)).get (k2.get Y1.out.blk (fun q => q)) (fun q => q))) (StatAt.mk (w := wq2.alloc (.cells #[.int .i64 1, .int .i64 1, .int .i64 493, .int .i64 0, .int .i64 0, .int .i64 3, .int .i64 3] 28)) (b := wq2.heap.size) (x := ⟨1, 1, 493, 0, 0, 3, 3⟩) (heap_alloc_eq wq2 _)))
       have q3 := stat_p C2.out (by decide) 4 bs4
       clear q2 k2)
    | (go_at_call 14
       refine (q3 _ (Keep.refl _ _)).mono ?_
       rintro e wq3 ⟨rfl, k3⟩
       have C3 := Lib.hid ((C2.out.step k3).step (Keep.alloc wq3 (.cells #[.int .i64 4, .int .i64 3, .int .i64 0, .int .i64 0, .int .i64 0, .int .i64 1, .int .i64 3] 28) _))
       have kz : Keep _ (wq3.alloc (.cells #[.int .i64 4, .int .i64 3, .int .i64 0, .int .i64 0, .int .i64 0, .int .i64 1, .int .i64 3] 28)) (fun _ => False) := k3.allocNew _
       have Y3 := Lib.hid (And.intro (StatAt.mk (kz.get Y2.out.1.blk (fun q => q))) (And.intro (StatAt.mk (kz.get Y2.out.2.blk (fun q => q))) (StatAt.mk (w := wq3.alloc (.cells #[.int .i64 4, .int .i64 3, .int .i64 0, .int .i64 0, .int .i64 0, .int .i64 1, .int .i64 3] 28)) (b := wq3.heap.size) (x := ⟨4, 3, 0, 0, 0, 1, 3⟩) (heap_alloc_eq wq3 _))))
       have q4 := stat_p C3.out (by decide) 2 bs2
       clear q3 k3 kz)
    | (go_at_call 14
       refine (q4 _ (Keep.refl _ _)).mono ?_
       rintro e wq4 ⟨rfl, k4⟩
       have C4 := Lib.hid ((C3.out.step k4).step (Keep.alloc wq4 (.cells #[.int .i64 2, .int .i64 1, .int .i64 4095, .int .i64 0, .int .i64 0, .int .i64 2, .int .i64 1] 28) _))
       have kz : Keep _ (wq4.alloc (.cells #[.int .i64 2, .int .i64 1, .int .i64 4095, .int .i64 0, .int .i64 0, .int .i64 2, .int .i64 1] 28)) (fun _ => False) := k4.allocNew _
       obtain ⟨m0, m1, m2, m3, m4, m5, m6⟩ := (StatAt.mk (kz.get Y3.out.1.blk (fun q => q))).cells
       obtain ⟨n0, n1, n2, n3, n4, n5, n6⟩ := (StatAt.mk (kz.get Y3.out.2.1.blk (fun q => q))).cells
       obtain ⟨-, -, -, -, -, -, o6⟩ := (StatAt.mk (kz.get Y3.out.2.2.blk (fun q => q))).cells
       obtain ⟨-, -, p2, -, -, -, -⟩ := (StatAt.mk (w := wq4.alloc (.cells #[.int .i64 2, .int .i64 1, .int .i64 4095, .int .i64 0, .int .i64 0, .int .i64 2, .int .i64 1] 28)) (b := wq4.heap.size) (x := ⟨2, 1, 4095, 0, 0, 2, 1⟩) (heap_alloc_eq wq4 _)).cells
       simp only at m0 m1 m2 m3 m4 m5 m6 n0 n1 n2 n3 n4 n5 n6 o6 p2
       have x1 := eq1 (wq4.alloc (.cells #[.int .i64 2, .int .i64 1, .int .i64 4095, .int .i64 0, .int .i64 0, .int .i64 2, .int .i64 1] 28))
       have x2 := eq2 (wq4.alloc (.cells #[.int .i64 2, .int .i64 1, .int .i64 4095, .int .i64 0, .int .i64 0, .int .i64 2, .int .i64 1] 28))
       have hT := ttext_c C4.out.tab 4
       rw [bt4] at hT
       have hU2 := tup_c C4.out.tab 2
       rw [bu2] at hU2
       have hU3 := tup_c C4.out.tab 3
       rw [bu3] at hU3
       have hN := tnames_c C4.out.tab (C4.out.small.mono (by decide)) 1
       rw [bn1] at hN
       clear q4 k4 kz)
    | (go_at_call 26
       refine hT.mono ?_
       rintro e w1 ⟨rfl, rfl⟩
       clear hT)
    | (go_at_call 25
       refine hU2.mono ?_
       rintro e w1 ⟨rfl, rfl⟩
       clear hU2)
    | (go_at_call 25
       refine hU3.mono ?_
       rintro e w1 ⟨rfl, rfl⟩
       clear hU3)
    | (go_at_call 18
       refine hN.mono ?_
       rintro e wn ⟨v, rfl, r1, r2, r3⟩
       have kn := Keep.alloc wn (.cells #[.string ⟨#[100]⟩, .string ⟨#[101]⟩, .string ⟨#[108]⟩] 9) (fun _ => False)
       have ha : ListIn (wn.alloc (.cells #[.string ⟨#[100]⟩, .string ⟨#[101]⟩, .string ⟨#[108]⟩] 9)) v (([⟨#[100]⟩, ⟨#[101]⟩, ⟨#[108]⟩] : List ByteArray).map Value.string) := (ListIn.of_own r1).aside kn
       have hb : ListIn (wn.alloc (.cells #[.string ⟨#[100]⟩, .string ⟨#[101]⟩, .string ⟨#[108]⟩] 9)) (.slice (some ⟨wn.heap.size, 0, none⟩) 3 3) (([⟨#[100]⟩, ⟨#[101]⟩, ⟨#[108]⟩] : List ByteArray).map Value.string) := built3 wn _ _ _
       have hX := texts_c ha hb (by decide) (by decide)
       simp only [decide_true] at hX
       have C5 := Lib.hid ((C4.out.step r2).step kn)
       clear hN r1 r2 r3 kn ha hb)
    | (go_at_call 27
       refine hX.mono ?_
       rintro e wx ⟨rfl, q, hq⟩
       have C6 := Lib.hid (C5.out.step (w' := wx) (by rw [hq]; exact drewN_keep _ _ _))
       have hL := tleft_c C6.out.tab C6.out.good.ok.room
       rw [bleft] at hL
       clear hX hq)
    | (go_at_call 22
       refine hL.mono ?_
       rintro e wl ⟨rfl, kl⟩
       have C7 := Lib.hid (C6.out.step kl)
       have hK := tknown_c wl
       clear hL kl)
    | (go_at_call 16
       refine hK.mono ?_
       rintro e wk ⟨rfl, kk⟩
       have C8 := Lib.hid (C7.out.step kk)
       clear hK kk))
  go_ret
  exact ⟨rfl, C8.out.below⟩

end Go.Proofs.Ytnjfcedkfobbcaa
