/-
  What is asked of a tree; asks whose numbers are small.
-/
import Derived.Test.YtnjfcedkfobbcaaGreatTreeCur
import Derived.Test.YtnjfcedkfobbcaaGreatStructsF
namespace Go.Proofs.YtnjfcedkfobbcaaGreat
open Go Go.RowKit Go.Shelf
set_option linter.unusedSectionVars false
set_option linter.unusedSimpArgs false
set_option linter.unusedVariables false
set_option maxRecDepth 100000

abbrev kC : ByteArray := ⟨#[99]⟩
theorem right_kC : RightIs kC true := rightIs (l := [99]) (by decide +kernel)

structure AskT where
  kind : Int
  dir : Int
  to_ : Int
  n : Int
  s : ByteArray
  as_ : ByteArray
  st : TreeV.StatV
  ba : Option Addr
  bn : Nat
  bc : Nat

def askC (x : AskT) : Array Value :=
  #[.int .i64 x.kind, .int .i64 x.dir, .int .i64 x.to_, .int .i64 x.n, .string x.s, .string x.as_, .int .i64 x.st.node, .int .i64 x.st.kind, .int .i64 x.st.mode, .int .i64 x.st.uid, .int .i64 x.st.gid, .int .i64 x.st.links, .int .i64 x.st.size, .slice x.ba x.bn x.bc]

structure AskAt (w : World) (b o : Nat) (x : AskT) : Prop where
  c0 : w.cell? ⟨b, o, none⟩ = some (.int .i64 x.kind)
  c1 : w.cell? ⟨b, o + 1, none⟩ = some (.int .i64 x.dir)
  c2 : w.cell? ⟨b, o + 2, none⟩ = some (.int .i64 x.to_)
  c3 : w.cell? ⟨b, o + 3, none⟩ = some (.int .i64 x.n)
  c4 : w.cell? ⟨b, o + 4, none⟩ = some (.string x.s)
  c5 : w.cell? ⟨b, o + 5, none⟩ = some (.string x.as_)
  c6 : w.cell? ⟨b, o + 6, none⟩ = some (.int .i64 x.st.node)
  c7 : w.cell? ⟨b, o + 7, none⟩ = some (.int .i64 x.st.kind)
  c8 : w.cell? ⟨b, o + 8, none⟩ = some (.int .i64 x.st.mode)
  c9 : w.cell? ⟨b, o + 9, none⟩ = some (.int .i64 x.st.uid)
  c10 : w.cell? ⟨b, o + 10, none⟩ = some (.int .i64 x.st.gid)
  c11 : w.cell? ⟨b, o + 11, none⟩ = some (.int .i64 x.st.links)
  c12 : w.cell? ⟨b, o + 12, none⟩ = some (.int .i64 x.st.size)
  c13 : w.cell? ⟨b, o + 13, none⟩ = some (.slice x.ba x.bn x.bc)

theorem AskAt.keep {w w' : World} {b o : Nat} {x : AskT} (h : AskAt w b o x) {S : Nat → Prop} (K : Keep w w' S) (hS : ¬ S b) : AskAt w' b o x :=
  ⟨K.cell h.c0 hS, K.cell h.c1 hS, K.cell h.c2 hS, K.cell h.c3 hS, K.cell h.c4 hS, K.cell h.c5 hS, K.cell h.c6 hS, K.cell h.c7 hS, K.cell h.c8 hS, K.cell h.c9 hS, K.cell h.c10 hS, K.cell h.c11 hS, K.cell h.c12 hS, K.cell h.c13 hS⟩

theorem askAt_blk {w : World} {b : Nat} {x : AskT} {t : TypeId} (h : w.heap[b]? = some (.cells (askC x) t (0, 0))) : AskAt w b 0 x := by
  constructor <;> (rw [cell_blk h]; rfl)

theorem built_at (W : World) (a b c : ByteArray) (m : Int) (h0 : 0 ≤ m) (h1 : m ≤ 2) : ∃ s, s ∈ [a, b, c] ∧ (W.alloc (.cells #[.string a, .string b, .string c] 9)).cell? ⟨W.heap.size, 0 + m.toNat, none⟩ = some (.string s) := by
  rcases (by omega : m = 0 ∨ m = 1 ∨ m = 2) with rfl | rfl | rfl
  · exact ⟨a, by simp, by rw [cell_blk (heap_alloc_eq W _)]; rfl⟩
  · exact ⟨b, by simp, by rw [cell_blk (heap_alloc_eq W _)]; rfl⟩
  · exact ⟨c, by simp, by rw [cell_blk (heap_alloc_eq W _)]; rfl⟩

theorem tame_res {W : World} {b : Nat} {x : AskT} {A : Array Value} (z : W.heap[b]? = some (.cells (askC x) 35 (0, 0))) (h4 : A.getD 2 undef = .pointer (some ⟨b, 0, none⟩)) :
    (results Tryz.f7 A).run Tryz.prog W = .ok (.agg (askC x)) W := by
  obtain ⟨y0, y1, y2, y3, y4, y5, y6, y7, y8, y9, y10, y11, y12, y13⟩ := askAt_blk z
  simp only [Nat.zero_add] at y0 y1 y2 y3 y4 y5 y6 y7 y8 y9 y10 y11 y12 y13
  have h4' : A[2]?.getD undef = .pointer (some ⟨b, 0, none⟩) := by simpa using h4
  simp [results, Tryz.results7, go_sem, h4', y0, y1, y2, y3, y4, y5, y6, y7, y8, y9, y10, y11, y12, y13, askC]

set_option maxHeartbeats 1000000 in
theorem ask_sets {w W : World} {b : Nat} {x : AskT} {t : TypeId} (hb : W.heap[b]? = some (.cells #[.int .i64 0, .int .i64 0, .int .i64 0, .int .i64 0, .string ⟨#[]⟩, .string ⟨#[]⟩, .int .i64 0, .int .i64 0, .int .i64 0, .int .i64 0, .int .i64 0, .int .i64 0, .int .i64 0, .slice none 0 0] t (0, 0))) (K : Keep w W (fun _ => False)) (hlt : w.heap.size ≤ b) :
    ((((((((((((((W.setCell ⟨b, 0, none⟩ (.int .i64 x.kind)).setCell ⟨b, 1, none⟩ (.int .i64 x.dir)).setCell ⟨b, 2, none⟩ (.int .i64 x.to_)).setCell ⟨b, 3, none⟩ (.int .i64 x.n)).setCell ⟨b, 4, none⟩ (.string x.s)).setCell ⟨b, 5, none⟩ (.string x.as_)).setCell ⟨b, 6, none⟩ (.int .i64 x.st.node)).setCell ⟨b, 7, none⟩ (.int .i64 x.st.kind)).setCell ⟨b, 8, none⟩ (.int .i64 x.st.mode)).setCell ⟨b, 9, none⟩ (.int .i64 x.st.uid)).setCell ⟨b, 10, none⟩ (.int .i64 x.st.gid)).setCell ⟨b, 11, none⟩ (.int .i64 x.st.links)).setCell ⟨b, 12, none⟩ (.int .i64 x.st.size)).setCell ⟨b, 13, none⟩ (.slice x.ba x.bn x.bc)).heap[b]? = some (.cells (askC x) t (0, 0)) ∧ Keep w ((((((((((((((W.setCell ⟨b, 0, none⟩ (.int .i64 x.kind)).setCell ⟨b, 1, none⟩ (.int .i64 x.dir)).setCell ⟨b, 2, none⟩ (.int .i64 x.to_)).setCell ⟨b, 3, none⟩ (.int .i64 x.n)).setCell ⟨b, 4, none⟩ (.string x.s)).setCell ⟨b, 5, none⟩ (.string x.as_)).setCell ⟨b, 6, none⟩ (.int .i64 x.st.node)).setCell ⟨b, 7, none⟩ (.int .i64 x.st.kind)).setCell ⟨b, 8, none⟩ (.int .i64 x.st.mode)).setCell ⟨b, 9, none⟩ (.int .i64 x.st.uid)).setCell ⟨b, 10, none⟩ (.int .i64 x.st.gid)).setCell ⟨b, 11, none⟩ (.int .i64 x.st.links)).setCell ⟨b, 12, none⟩ (.int .i64 x.st.size)).setCell ⟨b, 13, none⟩ (.slice x.ba x.bn x.bc)) (fun _ => False) := by
  have s0 := heap_setCell_eq (off := 0) (Value.int .i64 x.kind) hb
  have s1 := heap_setCell_eq (off := 1) (Value.int .i64 x.dir) s0
  have s2 := heap_setCell_eq (off := 2) (Value.int .i64 x.to_) s1
  have s3 := heap_setCell_eq (off := 3) (Value.int .i64 x.n) s2
  have s4 := heap_setCell_eq (off := 4) (Value.string x.s) s3
  have s5 := heap_setCell_eq (off := 5) (Value.string x.as_) s4
  have s6 := heap_setCell_eq (off := 6) (Value.int .i64 x.st.node) s5
  have s7 := heap_setCell_eq (off := 7) (Value.int .i64 x.st.kind) s6
  have s8 := heap_setCell_eq (off := 8) (Value.int .i64 x.st.mode) s7
  have s9 := heap_setCell_eq (off := 9) (Value.int .i64 x.st.uid) s8
  have s10 := heap_setCell_eq (off := 10) (Value.int .i64 x.st.gid) s9
  have s11 := heap_setCell_eq (off := 11) (Value.int .i64 x.st.links) s10
  have s12 := heap_setCell_eq (off := 12) (Value.int .i64 x.st.size) s11
  have s13 := heap_setCell_eq (off := 13) (Value.slice x.ba x.bn x.bc) s12
  refine ⟨?_, ?_⟩
  · simpa [askC] using s13
  · exact ((((((((((((((K.setNew _ _ hlt).setNew _ _ hlt).setNew _ _ hlt).setNew _ _ hlt).setNew _ _ hlt).setNew _ _ hlt).setNew _ _ hlt).setNew _ _ hlt).setNew _ _ hlt).setNew _ _ hlt).setNew _ _ hlt).setNew _ _ hlt).setNew _ _ hlt).setNew _ _ hlt)

set_option maxHeartbeats 1600000 in
theorem tame_c (w : World) (x : AskT) :
    Calls Tryz.prog 7 #[.agg (askC x)] w fun e w' => ∃ d t s a k, e = .returned (.agg (askC { x with dir := d, to_ := t, s := s, as_ := a, st := { x.st with kind := k } })) ∧ (1 ≤ d ∧ d ≤ 6) ∧ (1 ≤ t ∧ t ≤ 6) ∧ (s = ka ∨ s = kb ∨ s = kC) ∧ (a = ka ∨ a = kb ∨ a = kC) ∧ (1 ≤ k ∧ k ≤ 2) ∧ Keep w w' (fun _ => False) := by
  unfold askC
  go_enter Tryz.func7, Tryz.ntmps7
  go_upto_region 1 with (fail)
  obtain ⟨w0, hw0⟩ : ∃ w0, w0 = (w.alloc (.cells #[.int .i64 x.kind, .int .i64 x.dir, .int .i64 x.to_, .int .i64 x.n, .string x.s, .string x.as_, .int .i64 x.st.node, .int .i64 x.st.kind, .int .i64 x.st.mode, .int .i64 x.st.uid, .int .i64 x.st.gid, .int .i64 x.st.links, .int .i64 x.st.size, .slice x.ba x.bn x.bc] 35)).alloc (.cells #[.int .i64 0, .int .i64 0, .int .i64 0, .int .i64 0, .string ⟨#[]⟩, .string ⟨#[]⟩, .int .i64 0, .int .i64 0, .int .i64 0, .int .i64 0, .int .i64 0, .int .i64 0, .int .i64 0, .slice none 0 0] 35) := ⟨_, rfl⟩
  obtain ⟨k0, b1, b2, z0⟩ := boxes2 w (.cells #[.int .i64 x.kind, .int .i64 x.dir, .int .i64 x.to_, .int .i64 x.n, .string x.s, .string x.as_, .int .i64 x.st.node, .int .i64 x.st.kind, .int .i64 x.st.mode, .int .i64 x.st.uid, .int .i64 x.st.gid, .int .i64 x.st.links, .int .i64 x.st.size, .slice x.ba x.bn x.bc] 35) (.cells #[.int .i64 0, .int .i64 0, .int .i64 0, .int .i64 0, .string ⟨#[]⟩, .string ⟨#[]⟩, .int .i64 0, .int .i64 0, .int .i64 0, .int .i64 0, .int .i64 0, .int .i64 0, .int .i64 0, .slice none 0 0] 35)
  rw [← hw0] at k0 b1 b2 z0 ⊢
  clear hw0
  have d1 := cell_blk b1 1
  have d2 := cell_blk b1 2
  simp only [List.getElem?_toArray, List.getElem?_cons_zero, List.getElem?_cons_succ] at d1 d2
  have f1 := free_blk b1 1
  have f2 := free_blk b1 2
  have H := Lib.hid (And.intro k0 (And.intro b1 b2))
  clear k0 b1 b2
  have hi1 := within_c w0 x.dir 0 5 (by omega) (by omega) (by omega)
  go_upto_region 2 with (
    go_at_call 5
    refine hi1.mono ?_
    rintro e w1 ⟨m1, h10, h11, rfl, rfl⟩
    clear hi1)
  have hi2 := within_c (w0.setCell ⟨w.heap.size, 1, none⟩ (.int .i64 (1 + m1))) x.to_ 0 5 (by omega) (by omega) (by omega)
  go_upto_region 3 with (
    go_at_call 5
    refine hi2.mono ?_
    rintro e w1 ⟨m2, h20, h21, rfl, rfl⟩
    clear hi2)
  obtain ⟨w1, hw1⟩ : ∃ w1, w1 = (w0.setCell ⟨w.heap.size, 1, none⟩ (.int .i64 (1 + m1))).setCell ⟨w.heap.size, 2, none⟩ (.int .i64 (1 + m2)) := ⟨_, rfl⟩
  have s1 := heap_setCell_eq (off := 1) (Value.int .i64 (1 + m1)) H.out.2.1
  have s2 := heap_setCell_eq (off := 2) (Value.int .i64 (1 + m2)) s1
  have k1 : Keep w0 w1 (fun b => b = w.heap.size) := by rw [hw1]; exact (Keep.setCell _ _ _).trans (Keep.setCell _ _ _) (fun b q => .inl q)
  rw [← hw1] at s2 ⊢
  clear hw1 s1 d1 d2 f1 f2
  have b1 : w1.heap[w.heap.size]? = some (.cells (askC { x with dir := 1 + m1, to_ := 1 + m2 }) 35 (0, 0)) := by simpa [askC] using s2
  have kw1 : Keep w w1 (fun _ => False) := H.out.1.trans k1 (fun b q => .inr (by omega))
  have c2 := k1.get H.out.2.2 (fun q => by omega)
  have z1 : w.heap.size + 2 ≤ w1.heap.size := by have := k1.size; omega
  clear s2 k1 H z0
  have H := Lib.hid (And.intro kw1 (And.intro b1 c2))
  clear kw1 b1 c2
  obtain ⟨wA, hwA⟩ : ∃ wA, wA = w1.alloc (.cells #[.string ka, .string kb, .string kC] 9) := ⟨_, rfl⟩
  have kA := Keep.alloc w1 (.cells #[.string ka, .string kb, .string kC] 9) (fun _ => False)
  rw [← hwA] at kA
  have b3 := kA.get H.out.2.1 (fun q => q)
  have d4 := (askAt_blk b3).c4
  have d5 := (askAt_blk b3).c5
  simp only [Nat.zero_add] at d4 d5
  have f4 := free_blk b3 4
  have hi3 := within_c wA (x.s.size : Int) 0 2 (by omega) (by omega) (by omega)
  have HA := Lib.hid (And.intro kA (And.intro b3 (And.intro hwA (kA.get H.out.2.2 (fun q => q)))))
  rw [hwA] at d4 d5 f4 hi3
  clear kA b3 hwA
  go_upto_region 4 with (
    go_at_call 5
    refine hi3.mono ?_
    rintro e w9 ⟨m3, h30, h31, rfl, rfl⟩
    obtain ⟨s3, hs3, cz⟩ := built_at w1 ka kb kC m3 h30 h31
    simp only [Nat.zero_add] at cz
    clear hi3)
  obtain ⟨w2, hw2⟩ : ∃ w2, w2 = wA.setCell ⟨w.heap.size, 4, none⟩ (.string s3) := ⟨_, rfl⟩
  have s2 := heap_setCell_eq (off := 4) (Value.string s3) HA.out.2.1
  have k2 : Keep wA w2 (fun b => b = w.heap.size) := by rw [hw2]; exact Keep.setCell _ _ _
  rw [← hw2] at s2
  rw [HA.out.2.2.1] at hw2
  rw [← hw2]
  clear hw2 d4 d5 f4 cz
  have b1 : w2.heap[w.heap.size]? = some (.cells (askC { x with dir := 1 + m1, to_ := 1 + m2, s := s3 }) 35 (0, 0)) := by simpa [askC] using s2
  have kw2 : Keep w w2 (fun _ => False) := (H.out.1.aside HA.out.1).trans k2 (fun b q => .inr (by omega))
  have c2 := k2.get HA.out.2.2.2 (fun q => by omega)
  have z2 : w.heap.size + 2 ≤ w2.heap.size := by have := k2.size; have := HA.out.1.size; omega
  clear s2 k2 H HA z1
  have H := Lib.hid (And.intro kw2 (And.intro b1 c2))
  clear kw2 b1 c2
  obtain ⟨wA, hwA⟩ : ∃ wA, wA = w2.alloc (.cells #[.string ka, .string kb, .string kC] 9) := ⟨_, rfl⟩
  have kA := Keep.alloc w2 (.cells #[.string ka, .string kb, .string kC] 9) (fun _ => False)
  rw [← hwA] at kA
  have b3 := kA.get H.out.2.1 (fun q => q)
  have d4 := (askAt_blk b3).c4
  have d5 := (askAt_blk b3).c5
  simp only [Nat.zero_add] at d4 d5
  have f4 := free_blk b3 5
  have hi3 := within_c wA (x.as_.size : Int) 0 2 (by omega) (by omega) (by omega)
  have HA := Lib.hid (And.intro kA (And.intro b3 (And.intro hwA (kA.get H.out.2.2 (fun q => q)))))
  rw [hwA] at d4 d5 f4 hi3
  clear kA b3 hwA
  go_upto_region 5 with (
    go_at_call 5
    refine hi3.mono ?_
    rintro e w9 ⟨m4, h40, h41, rfl, rfl⟩
    obtain ⟨s4, hs4, cz⟩ := built_at w2 ka kb kC m4 h40 h41
    simp only [Nat.zero_add] at cz
    clear hi3)
  obtain ⟨w3, hw3⟩ : ∃ w3, w3 = wA.setCell ⟨w.heap.size, 5, none⟩ (.string s4) := ⟨_, rfl⟩
  have s2 := heap_setCell_eq (off := 5) (Value.string s4) HA.out.2.1
  have k2 : Keep wA w3 (fun b => b = w.heap.size) := by rw [hw3]; exact Keep.setCell _ _ _
  rw [← hw3] at s2
  rw [HA.out.2.2.1] at hw3
  rw [← hw3]
  clear hw3 d4 d5 f4 cz
  have b1 : w3.heap[w.heap.size]? = some (.cells (askC { x with dir := 1 + m1, to_ := 1 + m2, s := s3, as_ := s4 }) 35 (0, 0)) := by simpa [askC] using s2
  have kw3 : Keep w w3 (fun _ => False) := (H.out.1.aside HA.out.1).trans k2 (fun b q => .inr (by omega))
  have c3 := k2.get HA.out.2.2.2 (fun q => by omega)
  clear s2 k2 H HA z2
  obtain ⟨-, -, -, -, -, -, -, d7, -, -, -, -, -, -⟩ := askAt_blk b1
  simp only [Nat.zero_add] at d7
  have f7 := free_blk b1 7
  have hi5 := within_c w3 x.st.kind 0 1 (by omega) (by omega) (by omega)
  have H := Lib.hid (And.intro kw3 (And.intro b1 c3))
  clear kw3 b1 c3
  go_upto_region 6 with (
    go_at_call 5
    refine hi5.mono ?_
    rintro e w9 ⟨m5, h50, h51, rfl, rfl⟩
    clear hi5)
  obtain ⟨w4, hw4⟩ : ∃ w4, w4 = w3.setCell ⟨w.heap.size, 7, none⟩ (.int .i64 (1 + m5)) := ⟨_, rfl⟩
  have s2 := heap_setCell_eq (off := 7) (Value.int .i64 (1 + m5)) H.out.2.1
  have k2 : Keep w3 w4 (fun b => b = w.heap.size) := by rw [hw4]; exact Keep.setCell _ _ _
  rw [← hw4] at s2 ⊢
  clear hw4 d7 f7
  have b1 : w4.heap[w.heap.size]? = some (.cells (askC { x with dir := 1 + m1, to_ := 1 + m2, s := s3, as_ := s4, st := { x.st with kind := 1 + m5 } }) 35 (0, 0)) := by simpa [askC] using s2
  have kw4 : Keep w w4 (fun _ => False) := H.out.1.trans k2 (fun b q => .inr (by omega))
  have c4 := k2.get H.out.2.2 (fun q => by omega)
  clear s2 k2 H
  obtain ⟨g0, g1, g2, g3, g4, g5, g6, g7, g8, g9, g10, g11, g12, g13⟩ := askAt_blk b1
  simp only [Nat.zero_add] at g0 g1 g2 g3 g4 g5 g6 g7 g8 g9 g10 g11 g12 g13
  have r := cell_blk c4
  have e0 := r 0
  have e1 := r 1
  have e2 := r 2
  have e3 := r 3
  have e4 := r 4
  have e5 := r 5
  have e6 := r 6
  have e7 := r 7
  have e8 := r 8
  have e9 := r 9
  have e10 := r 10
  have e11 := r 11
  have e12 := r 12
  have e13 := r 13
  simp only [List.getElem?_toArray, List.getElem?_cons_zero, List.getElem?_cons_succ] at e0 e1 e2 e3 e4 e5 e6 e7 e8 e9 e10 e11 e12 e13
  have f := free_blk c4
  have f0 := f 0
  have f1 := f 1
  have f2 := f 2
  have f3 := f 3
  have f4 := f 4
  have f5 := f 5
  have f6 := f 6
  have f7 := f 7
  have f8 := f 8
  have f9 := f 9
  have f10 := f 10
  have f11 := f 11
  have f12 := f 12
  have f13 := f 13
  have E := Lib.hid (ask_sets (x := { x with dir := 1 + m1, to_ := 1 + m2, s := s3, as_ := s4, st := { x.st with kind := 1 + m5 } }) c4 kw4 (by omega))
  have HS := Lib.hid (And.intro (show s3 = ka ∨ s3 = kb ∨ s3 = kC by simpa using hs3) (show s4 = ka ∨ s4 = kb ∨ s4 = kC by simpa using hs4))
  clear b1 kw4 c4 r f hs3 hs4
  go_wp2
  refine bodyPost_ret (tame_res E.out.1 rfl) rfl ⟨1 + m1, 1 + m2, s3, s4, 1 + m5, rfl, by omega, by omega, HS.out.1, HS.out.2, by omega, E.out.2⟩


abbrev asksT : List FieldKind := [.int .i64, .int .i64, .int .i64, .int .i64, .str, .str, .int .i64, .int .i64, .int .i64, .int .i64, .int .i64, .int .i64, .int .i64, .bytes]

theorem asksT_at {w : World} {a : Option Addr} {len cap : Nat} (h : StructsIs asksT w a len cap) (h0 : 0 < len) :
    ∃ b off, a = some ⟨b, off, none⟩ ∧ b < w.heap.size ∧ ∀ i, i < len → ∃ x, AskAt w b (off + i * 14) x ∧ ∃ zs, RowIs w x.ba x.bn x.bc zs := by
  obtain ⟨b, off, rfl, hb, hf⟩ := h.field h0 (by decide)
  refine ⟨b, off, rfl, hb, fun i hi => ?_⟩
  obtain ⟨v0, c0, n0, rfl, -⟩ := hf i hi 0 (.int .i64) rfl
  obtain ⟨v1, c1, n1, rfl, -⟩ := hf i hi 1 (.int .i64) rfl
  obtain ⟨v2, c2, n2, rfl, -⟩ := hf i hi 2 (.int .i64) rfl
  obtain ⟨v3, c3, n3, rfl, -⟩ := hf i hi 3 (.int .i64) rfl
  obtain ⟨v4, c4, n4, rfl, -⟩ := hf i hi 4 .str rfl
  obtain ⟨v5, c5, n5, rfl, -⟩ := hf i hi 5 .str rfl
  obtain ⟨v6, c6, n6, rfl, -⟩ := hf i hi 6 (.int .i64) rfl
  obtain ⟨v7, c7, n7, rfl, -⟩ := hf i hi 7 (.int .i64) rfl
  obtain ⟨v8, c8, n8, rfl, -⟩ := hf i hi 8 (.int .i64) rfl
  obtain ⟨v9, c9, n9, rfl, -⟩ := hf i hi 9 (.int .i64) rfl
  obtain ⟨v10, c10, n10, rfl, -⟩ := hf i hi 10 (.int .i64) rfl
  obtain ⟨v11, c11, n11, rfl, -⟩ := hf i hi 11 (.int .i64) rfl
  obtain ⟨v12, c12, n12, rfl, -⟩ := hf i hi 12 (.int .i64) rfl
  obtain ⟨v13, c13, ba, bn, bc, zs, rfl, hz⟩ := hf i hi 13 .bytes rfl
  exact ⟨⟨n0, n1, n2, n3, n4, n5, ⟨n6, n7, n8, n9, n10, n11, n12⟩, ba, bn, bc⟩, ⟨c0, c1, c2, c3, c4, c5, c6, c7, c8, c9, c10, c11, c12, c13⟩, zs, hz⟩

theorem right_key {s : ByteArray} (h : s = ka ∨ s = kb ∨ s = kC) : RightIs s true := by
  rcases h with rfl | rfl | rfl
  · exact right_a
  · exact right_b
  · exact right_kC

end Go.Proofs.YtnjfcedkfobbcaaGreat
