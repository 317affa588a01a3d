/-
  Parts of the walk's proof: Play3, WalkM. (joined by pack.py)
-/
import Derived.Test.YtoanccechefclaaGreatDoorK24
import Derived.Test.YtoanccechefclaaGreatDoorK26
set_option linter.unusedSectionVars false
set_option linter.unusedSimpArgs false
set_option linter.unusedVariables false
namespace Go.Proofs.YtoanccechefclaaGreatDoor
open Go Go.RowKit Go.Shelf
set_option maxRecDepth 100000
def namesA : List ByteArray := [ka, kb, kC, kl]
def textsA : List ByteArray := [⟨#[97]⟩, ⟨#[46, 46, 47, 98]⟩, ⟨#[47, 97, 47, 98]⟩, ⟨#[108]⟩, ⟨#[46]⟩, ⟨#[97, 47]⟩, ⟨#[47]⟩, ⟨#[]⟩, ⟨#[120, 47, 121]⟩, ⟨#[46, 46, 47, 46, 46, 47, 97, 47, 108]⟩]
def strsC (l : List ByteArray) : Array Value := (l.map Value.string).toArray
def tm0 : Array Value := #[.int .i64 0, .int .i64 0, .int .i64 0, .int .i64 0, .string ⟨#[]⟩, .string ⟨#[]⟩, .int .i64 0, .int .i64 0, .int .i64 0, .int .i64 0, .int .i64 0, .int .i64 0, .int .i64 0, .int .i64 0, .int .i64 0]
structure TmW (w W : World) (C : Array Value) (L : List (Nat × List ByteArray)) : Prop where
  keep : Keep w W (fun _ => False)
  b1 : W.heap[w.heap.size]? = some (.cells C 40 (0, 0))
  b2 : W.heap[w.heap.size + 1]? = some (.cells tm0 40 (0, 0))
  arr : ∀ p ∈ L, W.heap[p.1]? = some (.cells (strsC p.2) 9 (0, 0)) ∧ w.heap.size + 2 ≤ p.1
theorem TmW.set {w W : World} {C C' : Array Value} {L : List (Nat × List ByteArray)} (h : TmW w W C L) (i : Nat) (v : Value) (hC : C.setIfInBounds i v = C') : TmW w (W.setCell ⟨w.heap.size, i, none⟩ v) C' L := by
  have k := Keep.setCell W ⟨w.heap.size, i, none⟩ v
  refine ⟨h.keep.trans k (fun b q => .inr (by simp only at q; omega)), ?_, k.get h.b2 (fun q => by simp only at q; omega), fun p hp => ⟨k.get (h.arr p hp).1 (fun q => by simp only at q; have := (h.arr p hp).2; omega), (h.arr p hp).2⟩⟩
  rw [← hC]
  exact heap_setCell_eq (off := i) v h.b1
theorem TmW.more {w W : World} {C : Array Value} {L : List (Nat × List ByteArray)} (h : TmW w W C L) (l : List ByteArray) : TmW w (W.alloc (.cells (strsC l) 9)) C ((W.heap.size, l) :: L) := by
  have k := Keep.alloc W (.cells (strsC l) 9) (fun _ => False)
  refine ⟨h.keep.aside k, k.get h.b1 (fun q => q), k.get h.b2 (fun q => q), fun p hp => ?_⟩
  rcases List.mem_cons.1 hp with rfl | hp
  · exact ⟨heap_alloc_eq W _, by have := lt_of_blk h.b2; omega⟩
  · exact ⟨k.get (h.arr p hp).1 (fun q => q), (h.arr p hp).2⟩
theorem TmW.row {w W : World} {C : Array Value} {L : List (Nat × List ByteArray)} (h : TmW w W C L) {b : Nat} {l : List ByteArray} (hp : (b, l) ∈ L) {m : Int} (h0 : 0 ≤ m) (h1 : m < l.length) : ∃ s, s ∈ l ∧ W.cell? ⟨b, 0 + m.toNat, none⟩ = some (.string s) := by
  have hm : m.toNat < l.length := by omega
  refine ⟨l[m.toNat], List.getElem_mem _, ?_⟩
  rw [cell_blk (h.arr _ hp).1, Nat.zero_add]
  simp [strsC, hm]
theorem TmW.drew {w W : World} {C : Array Value} {L : List (Nat × List ByteArray)} (h : TmW w W C L) : TmW w W.drew C L := by
  have k := Keep.drew W (fun _ => False)
  exact ⟨h.keep.drewNew, k.get h.b1 (fun q => q), k.get h.b2 (fun q => q), fun p hp => ⟨k.get (h.arr p hp).1 (fun q => q), (h.arr p hp).2⟩⟩
def I64 (n : Int) : Prop := -9223372036854775808 ≤ n ∧ n ≤ 9223372036854775807
theorem nameOk_mem {s : ByteArray} (h : s ∈ namesA) : NameOk s := by simpa [namesA, NameOk] using h
theorem TmW.start (w : World) (C : Array Value) : TmW w ((w.alloc (.cells C 40)).alloc (.cells tm0 40)) C [] := by
  obtain ⟨k0, b1, b2, z0⟩ := boxes2 w (.cells C 40) (.cells tm0 40)
  exact ⟨k0, b1, b2, fun p hp => by cases hp⟩
theorem tm_res {W : World} {b : Nat} {x : ActV} {A : Array Value} (z : W.heap[b]? = some (.cells (actC x) 40 (0, 0))) (h4 : A.getD 2 undef = .pointer (some ⟨b, 0, none⟩)) :
    (results Tryz.f13 A).run Tryz.prog W = .ok (.agg (actC x)) W := by
  have r := cell_blk z
  have e0 := r 0; have e1 := r 1; have e2 := r 2; have e3 := r 3; have e4 := r 4; have e5 := r 5; have e6 := r 6; have e7 := r 7; have e8 := r 8; have e9 := r 9; have e10 := r 10; have e11 := r 11; have e12 := r 12; have e13 := r 13; have e14 := r 14
  simp only [actC, List.getElem?_toArray, List.getElem?_cons_zero, List.getElem?_cons_succ] at e0 e1 e2 e3 e4 e5 e6 e7 e8 e9 e10 e11 e12 e13 e14
  have h4' : A[2]?.getD undef = .pointer (some ⟨b, 0, none⟩) := by simpa using h4
  simp [results, Tryz.results13, go_sem, h4', e0, e1, e2, e3, e4, e5, e6, e7, e8, e9, e10, e11, e12, e13, e14, actC]
def TameTo (w : World) (e : Ending) (w' : World) : Prop := ∃ y, e = .returned (.agg (actC y)) ∧ ActOk y ∧ y.as_ ∈ textsA ++ namesA ∧ Keep w w' (fun _ => False)
set_option maxHeartbeats 4000000 in
theorem tm_end {w W : World} {y : ActV} {L : List (Nat × List ByteArray)} (h : TmW w W (actC y) L) (ho : ActOk y) (ht : y.as_ ∈ textsA ++ namesA) (A : Array Value) (h4 : A.getD 2 undef = .pointer (some ⟨w.heap.size + 1, 0, none⟩)) :
    bodyPost Tryz.prog Tryz.f13 (TameTo w) Exit.ret ⟨A, []⟩ (sets W (w.heap.size + 1) [(0, .int .i64 y.kind), (1, .int .i64 y.dir), (2, .int .i64 y.to_), (3, .int .i64 y.n), (4, .string y.s), (5, .string y.as_), (6, .int .i64 y.st.node), (7, .int .i64 y.st.kind), (8, .int .i64 y.st.mode), (9, .int .i64 y.st.uid), (10, .int .i64 y.st.gid), (11, .int .i64 y.st.links), (12, .int .i64 y.st.size), (13, .int .i64 y.am), (14, .int .i64 y.an)]) := by
  have s := sets_at [(0, .int .i64 y.kind), (1, .int .i64 y.dir), (2, .int .i64 y.to_), (3, .int .i64 y.n), (4, .string y.s), (5, .string y.as_), (6, .int .i64 y.st.node), (7, .int .i64 y.st.kind), (8, .int .i64 y.st.mode), (9, .int .i64 y.st.uid), (10, .int .i64 y.st.gid), (11, .int .i64 y.st.links), (12, .int .i64 y.st.size), (13, .int .i64 y.am), (14, .int .i64 y.an)] h.b2
  have k := sets_keep (b := w.heap.size + 1) [(0, .int .i64 y.kind), (1, .int .i64 y.dir), (2, .int .i64 y.to_), (3, .int .i64 y.n), (4, .string y.s), (5, .string y.as_), (6, .int .i64 y.st.node), (7, .int .i64 y.st.kind), (8, .int .i64 y.st.mode), (9, .int .i64 y.st.uid), (10, .int .i64 y.st.gid), (11, .int .i64 y.st.links), (12, .int .i64 y.st.size), (13, .int .i64 y.am), (14, .int .i64 y.an)] W
  refine bodyPost_ret (tm_res (x := y) (by simpa [setAll, tm0, actC] using s) h4) rfl ⟨y, rfl, ho, ht, h.keep.trans k (fun b q => .inr (by omega))⟩
set_option maxHeartbeats 20000000 in
theorem playtame_c (w : World) (x : ActV) (hB : (I64 x.kind) ∧ (I64 x.dir) ∧ (I64 x.to_) ∧ (I64 x.n) ∧ (I64 x.st.kind) ∧ (I64 x.st.mode) ∧ (I64 x.st.uid) ∧ (I64 x.st.gid) ∧ (I64 x.am) ∧ (I64 x.an)) (hl : x.s.size ≤ 9223372036854775807 ∧ x.as_.size ≤ 9223372036854775807) :
    Calls Tryz.prog 13 #[.agg (actC x)] w (TameTo w) := by
  obtain ⟨m0, m0l, m0h, m0c⟩ := small_u (x.kind) 8 (by decide) (by decide) hB.1.1 hB.1.2
  obtain ⟨m1, m1l, m1h, m1c⟩ := small_u (x.dir) 7 (by decide) (by decide) hB.2.1.1 hB.2.1.2
  obtain ⟨m2, m2l, m2h, m2c⟩ := small_u (x.to_) 7 (by decide) (by decide) hB.2.2.1.1 hB.2.2.1.2
  obtain ⟨m3, m3l, m3h, m3c⟩ := small_u ((x.s.size : Int)) 4 (by decide) (by decide) (by omega) (by omega)
  obtain ⟨m4, m4l, m4h, m4c⟩ := small_u ((x.as_.size : Int)) 4 (by decide) (by decide) (by omega) (by omega)
  obtain ⟨m5, m5l, m5h, m5c⟩ := small_u (x.st.kind) 3 (by decide) (by decide) hB.2.2.2.2.1.1 hB.2.2.2.2.1.2
  obtain ⟨m6, m6l, m6h, m6c⟩ := small_u ((x.as_.size : Int)) 10 (by decide) (by decide) (by omega) (by omega)
  obtain ⟨m7, m7l, m7h, m7c⟩ := small_u (x.st.uid) 3 (by decide) (by decide) hB.2.2.2.2.2.2.1.1 hB.2.2.2.2.2.2.1.2
  obtain ⟨m8, m8l, m8h, m8c⟩ := small_u (x.st.gid) 3 (by decide) (by decide) hB.2.2.2.2.2.2.2.1.1 hB.2.2.2.2.2.2.2.1.2
  obtain ⟨m9, m9l, m9h, m9c⟩ := small_u (x.am) 3 (by decide) (by decide) hB.2.2.2.2.2.2.2.2.1.1 hB.2.2.2.2.2.2.2.2.1.2
  obtain ⟨mA, mAl, mAh, mAc⟩ := small_u (x.an) 7 (by decide) (by decide) hB.2.2.2.2.2.2.2.2.2.1 hB.2.2.2.2.2.2.2.2.2.2
  obtain ⟨mB, mBl, mBh, mBc⟩ := small_u (x.n) 5 (by decide) (by decide) hB.2.2.2.1.1 hB.2.2.2.1.2
  have HM := Lib.hid hB.2.2.2.2.2.1
  clear hB hl
  unfold actC
  go_enter Tryz.func13, Tryz.ntmps13
  go_upto_region 1 with (fail)
  have H2 := TmW.start w #[.int .i64 x.kind, .int .i64 x.dir, .int .i64 x.to_, .int .i64 x.n, .string x.s, .string x.as_, .int .i64 x.st.node, .int .i64 x.st.kind, .int .i64 x.st.mode, .int .i64 x.st.uid, .int .i64 x.st.gid, .int .i64 x.st.links, .int .i64 x.st.size, .int .i64 x.am, .int .i64 x.an]
  unfold tm0 at H2
  obtain ⟨w0, hw0⟩ : ∃ w0, w0 = (w.alloc (.cells #[.int .i64 x.kind, .int .i64 x.dir, .int .i64 x.to_, .int .i64 x.n, .string x.s, .string x.as_, .int .i64 x.st.node, .int .i64 x.st.kind, .int .i64 x.st.mode, .int .i64 x.st.uid, .int .i64 x.st.gid, .int .i64 x.st.links, .int .i64 x.st.size, .int .i64 x.am, .int .i64 x.an] 40)).alloc (.cells #[.int .i64 0, .int .i64 0, .int .i64 0, .int .i64 0, .string ⟨#[]⟩, .string ⟨#[]⟩, .int .i64 0, .int .i64 0, .int .i64 0, .int .i64 0, .int .i64 0, .int .i64 0, .int .i64 0, .int .i64 0, .int .i64 0] 40) := ⟨_, rfl⟩
  rw [← hw0] at H2 ⊢
  clear hw0
  have H := Lib.hid H2
  clear H2
  go_upto_region 2 with (fail)
  have H2 := H.out.more namesA
  have hz : strsC namesA = #[.string ka, .string kb, .string kC, .string kl] := rfl
  rw [hz] at H2
  clear hz
  obtain ⟨w1, hw1⟩ : ∃ w1, w1 = w0.alloc (.cells #[.string ka, .string kb, .string kC, .string kl] 9) := ⟨_, rfl⟩
  rw [← hw1] at H2 ⊢
  clear hw1
  obtain ⟨nb, hnb⟩ : ∃ nb, nb = w0.heap.size := ⟨_, rfl⟩
  rw [← hnb] at H2 ⊢
  clear hnb H
  have H := Lib.hid H2
  clear H2
  have d0 : w1.cell? ⟨w.heap.size, 0, none⟩ = some (.int .i64 x.kind) := by rw [cell_blk H.out.b1]; rfl
  have f0 := free_blk H.out.b1 0
  go_upto_region 3 with (
    go_at_call 53
    refine (m0c _).mono ?_
    rintro e u ⟨rfl, rfl⟩)
  have H2 : TmW w (w1.setCell ⟨w.heap.size, 0, none⟩ (.int .i64 (1 + m0))) #[.int .i64 (1 + m0), .int .i64 x.dir, .int .i64 x.to_, .int .i64 x.n, .string x.s, .string x.as_, .int .i64 x.st.node, .int .i64 x.st.kind, .int .i64 x.st.mode, .int .i64 x.st.uid, .int .i64 x.st.gid, .int .i64 x.st.links, .int .i64 x.st.size, .int .i64 x.am, .int .i64 x.an] ((nb, namesA) :: []) := (H.out.set 0 (.int .i64 (1 + m0)) rfl)
  obtain ⟨w2, hw2⟩ : ∃ w2, w2 = (w1.setCell ⟨w.heap.size, 0, none⟩ (.int .i64 (1 + m0))) := ⟨_, rfl⟩
  rw [← hw2] at H2 ⊢
  clear hw2 H d0 f0 
  have H := Lib.hid H2
  clear H2
  have d1 : w2.cell? ⟨w.heap.size, 1, none⟩ = some (.int .i64 x.dir) := by rw [cell_blk H.out.b1]; rfl
  have f1 := free_blk H.out.b1 1
  go_upto_region 4 with (
    go_at_call 53
    refine (m1c _).mono ?_
    rintro e u ⟨rfl, rfl⟩)
  have H2 : TmW w (w2.setCell ⟨w.heap.size, 1, none⟩ (.int .i64 (1 + m1))) #[.int .i64 (1 + m0), .int .i64 (1 + m1), .int .i64 x.to_, .int .i64 x.n, .string x.s, .string x.as_, .int .i64 x.st.node, .int .i64 x.st.kind, .int .i64 x.st.mode, .int .i64 x.st.uid, .int .i64 x.st.gid, .int .i64 x.st.links, .int .i64 x.st.size, .int .i64 x.am, .int .i64 x.an] ((nb, namesA) :: []) := (H.out.set 1 (.int .i64 (1 + m1)) rfl)
  obtain ⟨w3, hw3⟩ : ∃ w3, w3 = (w2.setCell ⟨w.heap.size, 1, none⟩ (.int .i64 (1 + m1))) := ⟨_, rfl⟩
  rw [← hw3] at H2 ⊢
  clear hw3 H d1 f1 
  have H := Lib.hid H2
  clear H2
  have d2 : w3.cell? ⟨w.heap.size, 2, none⟩ = some (.int .i64 x.to_) := by rw [cell_blk H.out.b1]; rfl
  have f2 := free_blk H.out.b1 2
  go_upto_region 5 with (
    go_at_call 53
    refine (m2c _).mono ?_
    rintro e u ⟨rfl, rfl⟩)
  have H2 : TmW w (w3.setCell ⟨w.heap.size, 2, none⟩ (.int .i64 (1 + m2))) #[.int .i64 (1 + m0), .int .i64 (1 + m1), .int .i64 (1 + m2), .int .i64 x.n, .string x.s, .string x.as_, .int .i64 x.st.node, .int .i64 x.st.kind, .int .i64 x.st.mode, .int .i64 x.st.uid, .int .i64 x.st.gid, .int .i64 x.st.links, .int .i64 x.st.size, .int .i64 x.am, .int .i64 x.an] ((nb, namesA) :: []) := (H.out.set 2 (.int .i64 (1 + m2)) rfl)
  obtain ⟨w4, hw4⟩ : ∃ w4, w4 = (w3.setCell ⟨w.heap.size, 2, none⟩ (.int .i64 (1 + m2))) := ⟨_, rfl⟩
  rw [← hw4] at H2 ⊢
  clear hw4 H d2 f2 
  have H := Lib.hid H2
  clear H2
  have d4 : w4.cell? ⟨w.heap.size, 4, none⟩ = some (.string x.s) := by rw [cell_blk H.out.b1]; rfl
  have f4 := free_blk H.out.b1 4
  obtain ⟨s3, hs3, cz⟩ := H.out.row (b := nb) (l := namesA) (by simp) m3l m3h
  simp only [Nat.zero_add] at cz
  go_upto_region 6 with (
    go_at_call 53
    refine (m3c _).mono ?_
    rintro e u ⟨rfl, rfl⟩)
  have H2 : TmW w (w4.setCell ⟨w.heap.size, 4, none⟩ (.string s3)) #[.int .i64 (1 + m0), .int .i64 (1 + m1), .int .i64 (1 + m2), .int .i64 x.n, .string s3, .string x.as_, .int .i64 x.st.node, .int .i64 x.st.kind, .int .i64 x.st.mode, .int .i64 x.st.uid, .int .i64 x.st.gid, .int .i64 x.st.links, .int .i64 x.st.size, .int .i64 x.am, .int .i64 x.an] ((nb, namesA) :: []) := (H.out.set 4 (.string s3) rfl)
  obtain ⟨w5, hw5⟩ : ∃ w5, w5 = (w4.setCell ⟨w.heap.size, 4, none⟩ (.string s3)) := ⟨_, rfl⟩
  rw [← hw5] at H2 ⊢
  clear hw5 H d4 f4 cz
  have H := Lib.hid H2
  clear H2
  go_upto_region 7 with (fail)
  have H2 := H.out.more textsA
  have hz : strsC textsA = #[.string ⟨#[97]⟩, .string ⟨#[46, 46, 47, 98]⟩, .string ⟨#[47, 97, 47, 98]⟩, .string ⟨#[108]⟩, .string ⟨#[46]⟩, .string ⟨#[97, 47]⟩, .string ⟨#[47]⟩, .string ⟨#[]⟩, .string ⟨#[120, 47, 121]⟩, .string ⟨#[46, 46, 47, 46, 46, 47, 97, 47, 108]⟩] := rfl
  rw [hz] at H2
  clear hz
  obtain ⟨w6, hw6⟩ : ∃ w6, w6 = w5.alloc (.cells #[.string ⟨#[97]⟩, .string ⟨#[46, 46, 47, 98]⟩, .string ⟨#[47, 97, 47, 98]⟩, .string ⟨#[108]⟩, .string ⟨#[46]⟩, .string ⟨#[97, 47]⟩, .string ⟨#[47]⟩, .string ⟨#[]⟩, .string ⟨#[120, 47, 121]⟩, .string ⟨#[46, 46, 47, 46, 46, 47, 97, 47, 108]⟩] 9) := ⟨_, rfl⟩
  rw [← hw6] at H2 ⊢
  clear hw6
  obtain ⟨tb, htb⟩ : ∃ tb, tb = w5.heap.size := ⟨_, rfl⟩
  rw [← htb] at H2 ⊢
  clear htb H
  have H := Lib.hid H2
  clear H2
  have d5 : w6.cell? ⟨w.heap.size, 5, none⟩ = some (.string x.as_) := by rw [cell_blk H.out.b1]; rfl
  go_upto_region 8 with (fail)
  clear d5
  have d5 : w6.cell? ⟨w.heap.size, 5, none⟩ = some (.string x.as_) := by rw [cell_blk H.out.b1]; rfl
  have f5 := free_blk H.out.b1 5
  obtain ⟨s4, hs4, cz⟩ := H.out.row (b := nb) (l := namesA) (by simp) m4l m4h
  simp only [Nat.zero_add] at cz
  go_upto_region 9 with (
    go_at_call 53
    refine (m4c _).mono ?_
    rintro e u ⟨rfl, rfl⟩)
  have H2 : TmW w (w6.setCell ⟨w.heap.size, 5, none⟩ (.string s4)) #[.int .i64 (1 + m0), .int .i64 (1 + m1), .int .i64 (1 + m2), .int .i64 x.n, .string s3, .string s4, .int .i64 x.st.node, .int .i64 x.st.kind, .int .i64 x.st.mode, .int .i64 x.st.uid, .int .i64 x.st.gid, .int .i64 x.st.links, .int .i64 x.st.size, .int .i64 x.am, .int .i64 x.an] ((tb, textsA) :: ((nb, namesA) :: [])) := (H.out.set 5 (.string s4) rfl)
  obtain ⟨w7, hw7⟩ : ∃ w7, w7 = (w6.setCell ⟨w.heap.size, 5, none⟩ (.string s4)) := ⟨_, rfl⟩
  rw [← hw7] at H2 ⊢
  clear hw7 H d5 f5 cz
  have H := Lib.hid H2
  clear H2
  have HN := Lib.hid (And.intro (nameOk_mem hs3) (And.intro (nameOk_mem hs4) (And.intro hs3 hs4)))
  clear hs3 hs4
  have d0 : w7.cell? ⟨w.heap.size, 0, none⟩ = some (.int .i64 (1 + m0)) := by rw [cell_blk H.out.b1]; rfl
  go_upto_if 42 with (fail)
  go_cut [] from 40 (fun wc => ∃ y : ActV, TmW w wc (actC y) ((tb, textsA) :: ((nb, namesA) :: [])) ∧ ActOk y ∧ y.as_ ∈ textsA ++ namesA ∧ y.n = x.n ∧ y.am = x.am ∧ y.an = x.an)
  case first =>
    by_cases hk : 1 + m0 = 1
    · have g0 : (1 + m0 == 1) = true := by simp [hk]
      have HK := Lib.hid hk
      clear hk
      go_upto_region 10 with (fail)
      clear d0 g0
      have d7 : w7.cell? ⟨w.heap.size, 7, none⟩ = some (.int .i64 x.st.kind) := by rw [cell_blk H.out.b1]; rfl
      have f7 := free_blk H.out.b1 7
      go_upto_region 11 with (
        go_at_call 53
        refine (m5c _).mono ?_
        rintro e u ⟨rfl, rfl⟩)
      have H2 : TmW w (w7.setCell ⟨w.heap.size, 7, none⟩ (.int .i64 (1 + m5))) #[.int .i64 (1 + m0), .int .i64 (1 + m1), .int .i64 (1 + m2), .int .i64 x.n, .string s3, .string s4, .int .i64 x.st.node, .int .i64 (1 + m5), .int .i64 x.st.mode, .int .i64 x.st.uid, .int .i64 x.st.gid, .int .i64 x.st.links, .int .i64 x.st.size, .int .i64 x.am, .int .i64 x.an] ((tb, textsA) :: ((nb, namesA) :: [])) := (H.out.set 7 (.int .i64 (1 + m5)) rfl)
      obtain ⟨w8, hw8⟩ : ∃ w8, w8 = (w7.setCell ⟨w.heap.size, 7, none⟩ (.int .i64 (1 + m5))) := ⟨_, rfl⟩
      rw [← hw8] at H2 ⊢
      clear hw8 H d7 f7 
      have H := Lib.hid H2
      clear H2
      have d5 : w8.cell? ⟨w.heap.size, 5, none⟩ = some (.string s4) := by rw [cell_blk H.out.b1]; rfl
      have f5 := free_blk H.out.b1 5
      go_upto_region 12 with (fail)
      have H2 : TmW w (w8.setCell ⟨w.heap.size, 5, none⟩ (.string ⟨#[]⟩)) #[.int .i64 (1 + m0), .int .i64 (1 + m1), .int .i64 (1 + m2), .int .i64 x.n, .string s3, .string ⟨#[]⟩, .int .i64 x.st.node, .int .i64 (1 + m5), .int .i64 x.st.mode, .int .i64 x.st.uid, .int .i64 x.st.gid, .int .i64 x.st.links, .int .i64 x.st.size, .int .i64 x.am, .int .i64 x.an] ((tb, textsA) :: ((nb, namesA) :: [])) := (H.out.set 5 (.string ⟨#[]⟩) rfl)
      obtain ⟨w9, hw9⟩ : ∃ w9, w9 = (w8.setCell ⟨w.heap.size, 5, none⟩ (.string ⟨#[]⟩)) := ⟨_, rfl⟩
      rw [← hw9] at H2 ⊢
      clear hw9 H d5 f5 
      have H := Lib.hid H2
      clear H2
      have d7 : w9.cell? ⟨w.heap.size, 7, none⟩ = some (.int .i64 (1 + m5)) := by rw [cell_blk H.out.b1]; rfl
      go_upto_if 54 with (fail)
      go_cut [] from 54 (fun w20 => ∃ sx : ByteArray, sx ∈ textsA ∧ TmW w w20 #[.int .i64 (1 + m0), .int .i64 (1 + m1), .int .i64 (1 + m2), .int .i64 x.n, .string s3, .string sx, .int .i64 x.st.node, .int .i64 (1 + m5), .int .i64 x.st.mode, .int .i64 x.st.uid, .int .i64 x.st.gid, .int .i64 x.st.links, .int .i64 x.st.size, .int .i64 x.am, .int .i64 x.an] ((tb, textsA) :: ((nb, namesA) :: [])))
      case first =>
        by_cases hy : 1 + m5 = 3
        · have gy : (1 + m5 == 3) = true := by simp [hy]
          clear d7 hy
          obtain ⟨s6, hs6, cz⟩ := H.out.row (b := tb) (l := textsA) (by simp) m6l m6h
          simp only [Nat.zero_add] at cz
          have d5 : w9.cell? ⟨w.heap.size, 5, none⟩ = some (.string ⟨#[]⟩) := by rw [cell_blk H.out.b1]; rfl
          have f5 := free_blk H.out.b1 5
          go_wp2_with (
            go_at_call 53
            refine (m6c _).mono ?_
            rintro e u ⟨rfl, rfl⟩)
          go_meet
          case rel => exact ⟨s6, hs6, H.out.set 5 (.string s6) rfl⟩
        · have gy : (1 + m5 == 3) = false := by simp [hy]
          clear d7 hy
          go_wp2
          go_meet
          case rel => exact ⟨⟨#[]⟩, by simp [textsA], H.out⟩
      case rest =>
        obtain ⟨w20, rfl⟩ : ∃ w20 : World, w20 = wc := ⟨_, rfl⟩
        obtain ⟨sx, hsx, hH⟩ := hcut
        clear H d7
        have H := Lib.hid hH
        have HY := Lib.hid hsx
        clear hH hsx
        have d8 : w20.cell? ⟨w.heap.size, 8, none⟩ = some (.int .i64 x.st.mode) := by rw [cell_blk H.out.b1]; rfl
        go_upto_if 65 with (fail)
        go_cut [] from 65 (fun w30 => ∃ md : Int, TmW w w30 #[.int .i64 (1 + m0), .int .i64 (1 + m1), .int .i64 (1 + m2), .int .i64 x.n, .string s3, .string sx, .int .i64 x.st.node, .int .i64 (1 + m5), .int .i64 md, .int .i64 x.st.uid, .int .i64 x.st.gid, .int .i64 x.st.links, .int .i64 x.st.size, .int .i64 x.am, .int .i64 x.an] ((tb, textsA) :: ((nb, namesA) :: [])))
        case first =>
          by_cases hm : x.st.mode.tmod 4 = 0
          · have gm : (x.st.mode.tmod 4 != 0) = false := by simp [hm]
            clear hm
            go_wp2
            go_meet
            case rel => exact ⟨_, H.out⟩
          · have gm : (x.st.mode.tmod 4 != 0) = true := by simp [hm]
            have f8 := free_blk H.out.b1 8
            clear hm
            go_wp2
            go_meet
            case rel => exact ⟨493, H.out.set 8 (.int .i64 493) rfl⟩
        case rest =>
          obtain ⟨w30, rfl⟩ : ∃ w30 : World, w30 = wc := ⟨_, rfl⟩
          obtain ⟨md, hH⟩ := hcut
          clear H d8
          have H := Lib.hid hH
          clear hH
          go_upto_region 16 with (fail)
          have d9 : w30.cell? ⟨w.heap.size, 9, none⟩ = some (.int .i64 x.st.uid) := by rw [cell_blk H.out.b1]; rfl
          have f9 := free_blk H.out.b1 9
          go_upto_region 17 with (
            go_at_call 53
            refine (m7c _).mono ?_
            rintro e u ⟨rfl, rfl⟩)
          have H2 : TmW w (w30.setCell ⟨w.heap.size, 9, none⟩ (.int .i64 m7)) #[.int .i64 (1 + m0), .int .i64 (1 + m1), .int .i64 (1 + m2), .int .i64 x.n, .string s3, .string sx, .int .i64 x.st.node, .int .i64 (1 + m5), .int .i64 md, .int .i64 m7, .int .i64 x.st.gid, .int .i64 x.st.links, .int .i64 x.st.size, .int .i64 x.am, .int .i64 x.an] ((tb, textsA) :: ((nb, namesA) :: [])) := (H.out.set 9 (.int .i64 m7) rfl)
          obtain ⟨w31, hw31⟩ : ∃ w31, w31 = (w30.setCell ⟨w.heap.size, 9, none⟩ (.int .i64 m7)) := ⟨_, rfl⟩
          rw [← hw31] at H2 ⊢
          clear hw31 H d9 f9 
          have H := Lib.hid H2
          clear H2
          have d10 : w31.cell? ⟨w.heap.size, 10, none⟩ = some (.int .i64 x.st.gid) := by rw [cell_blk H.out.b1]; rfl
          have f10 := free_blk H.out.b1 10
          have hF := H.out.set 10 (.int .i64 m8) rfl
          have HF := Lib.hid hF
          clear hF
          go_wp2_with (
            go_at_call 53
            refine (m8c _).mono ?_
            rintro e u ⟨rfl, rfl⟩)
          go_meet
          case rel => exact ⟨⟨1 + m0, 1 + m1, 1 + m2, x.n, s3, sx, ⟨x.st.node, 1 + m5, md, m7, m8, x.st.links, x.st.size⟩, x.am, x.an⟩, HF.out, ⟨⟨by show 1 ≤ 1 + m0; omega, by show 1 + m0 ≤ 8; omega⟩, HN.out.1, fun q => absurd q (by have := HK.out; show ¬ 1 + m0 = 4; omega)⟩, List.mem_append_left _ HY.out, rfl, rfl, rfl⟩
    · have g0 : (1 + m0 == 1) = false := by simp [hk]
      go_wp2
      go_meet
      case rel => exact ⟨⟨1 + m0, 1 + m1, 1 + m2, x.n, s3, s4, ⟨x.st.node, x.st.kind, x.st.mode, x.st.uid, x.st.gid, x.st.links, x.st.size⟩, x.am, x.an⟩, H.out, ⟨⟨by show 1 ≤ 1 + m0; omega, by show 1 + m0 ≤ 8; omega⟩, HN.out.1, fun _ => HN.out.2.1⟩, List.mem_append_right _ HN.out.2.2.2, rfl, rfl, rfl⟩
  case rest =>
    obtain ⟨y, H1, ho, ht, e1, e2, e3⟩ := hcut
    have H2 : TmW w wc #[.int .i64 y.kind, .int .i64 y.dir, .int .i64 y.to_, .int .i64 x.n, .string y.s, .string y.as_, .int .i64 y.st.node, .int .i64 y.st.kind, .int .i64 y.st.mode, .int .i64 y.st.uid, .int .i64 y.st.gid, .int .i64 y.st.links, .int .i64 y.st.size, .int .i64 x.am, .int .i64 x.an] ((tb, textsA) :: ((nb, namesA) :: [])) := by
      have := H1
      unfold actC at this
      rw [e1, e2, e3] at this
      exact this
    clear H H1
    have H := Lib.hid H2
    have HO := Lib.hid (And.intro ho ht)
    clear H2 ho ht e1 e2 e3
    have d13 : wc.cell? ⟨w.heap.size, 13, none⟩ = some (.int .i64 x.am) := by rw [cell_blk H.out.b1]; rfl
    have d14 : wc.cell? ⟨w.heap.size, 14, none⟩ = some (.int .i64 x.an) := by rw [cell_blk H.out.b1]; rfl
    have f13 := free_blk H.out.b1 13
    have f14 := free_blk H.out.b1 14
    have hwA : IntKind.i64.wrap (1 + mA) = 1 + mA := IntWalk.i64_in _ (by omega)
    go_upto_region 18 with (fail)
    go_cut [] from 80 (fun wd => TmW w wd #[.int .i64 y.kind, .int .i64 y.dir, .int .i64 y.to_, .int .i64 x.n, .string y.s, .string y.as_, .int .i64 y.st.node, .int .i64 y.st.kind, .int .i64 y.st.mode, .int .i64 y.st.uid, .int .i64 y.st.gid, .int .i64 y.st.links, .int .i64 y.st.size, .int .i64 m9, .int .i64 (1 + mA)] ((tb, textsA) :: ((nb, namesA) :: [])))
    case first =>
      refine wp_region_held_drew (S := fun w' => True) (by kernel_rfl) trivial (fun hHeld => ?_)
      refine wpAnyH_take (i := 0) (v := ?_) rfl (by kernel_rfl) (by kernel_rfl) (by kernel_rfl) (fun _ _ _ h => h) (Or.inl ⟨by rfl, ?_⟩) (by assumption) ?_
      rotate_left
      · intro w hSw; (try dsimp only at hSw); go_simp; try with_reducible rfl
      try simp only [Act.put, List.setIfInBounds_toArray, List.set_cons_zero, List.set_cons_succ, List.getElem_toArray, List.getElem_cons_zero, List.getElem_cons_succ]
      refine wpAnyH_take (i := 1) (v := ?_) rfl (by kernel_rfl) (by kernel_rfl) (by kernel_rfl) (fun _ _ _ h => h) (Or.inl ⟨by rfl, ?_⟩) (by assumption) ?_
      rotate_left
      · intro w hSw; (try dsimp only at hSw); go_simp; try with_reducible rfl
      try simp only [Act.put, List.setIfInBounds_toArray, List.set_cons_zero, List.set_cons_succ, List.getElem_toArray, List.getElem_cons_zero, List.getElem_cons_succ]
      refine wpAnyH_take (i := 4) (v := ?_) rfl (by kernel_rfl) (by kernel_rfl) (by kernel_rfl) (fun _ _ _ h => h) (Or.inl ⟨by rfl, ?_⟩) (by assumption) ?_
      rotate_left
      · intro w hSw; (try dsimp only at hSw); go_simp; try with_reducible rfl
      try simp only [Act.put, List.setIfInBounds_toArray, List.set_cons_zero, List.set_cons_succ, List.getElem_toArray, List.getElem_cons_zero, List.getElem_cons_succ]
      refine wpAnyH_take (i := 5) (v := ?_) rfl (by kernel_rfl) (by kernel_rfl) (by kernel_rfl) (fun _ _ _ h => h) (Or.inl ⟨by rfl, ?_⟩) (by assumption) ?_
      rotate_left
      · intro w hSw; (try dsimp only at hSw); go_simp; try with_reducible rfl
      try simp only [Act.put, List.setIfInBounds_toArray, List.set_cons_zero, List.set_cons_succ, List.getElem_toArray, List.getElem_cons_zero, List.getElem_cons_succ]
      refine wpAnyH_ready (rs := [2, 6]) (by kernel_rfl) (by simp) ?_
      refine AllReadyH.cons rfl (fun K hK => ?_) (AllReadyH.cons rfl (fun K hK => ?_) AllReadyH.nil)
      · go_simp
        refine hK.out _ _ trivial (fun hHeld => ?_)
        clear hK K
        try simp only [Act.put, List.setIfInBounds_toArray, List.set_cons_zero, List.set_cons_succ, List.getElem_toArray, List.getElem_cons_zero, List.getElem_cons_succ]
        refine wpAnyH_ready (rs := [3, 6]) (by kernel_rfl) (by simp) ?_
        refine AllReadyH.cons rfl (fun K hK => ?_) (AllReadyH.cons rfl (fun K hK => ?_) AllReadyH.nil)
        · go_simp
          refine (m9c _).mono ?_
          rintro e u ⟨rfl, rfl⟩
          refine hK.out _ _ trivial (fun hHeld => ?_)
          clear hK K
          try simp only [Act.put, List.setIfInBounds_toArray, List.set_cons_zero, List.set_cons_succ, List.getElem_toArray, List.getElem_cons_zero, List.getElem_cons_succ]
          refine wpAnyH_ready (rs := [6]) (by kernel_rfl) (by simp) ?_
          refine AllReadyH.cons rfl (fun K hK => ?_) AllReadyH.nil
          go_simp
          refine hK.out _ _ trivial (fun hHeld => ?_)
          clear hK K
          try simp only [Act.put, List.setIfInBounds_toArray, List.set_cons_zero, List.set_cons_succ, List.getElem_toArray, List.getElem_cons_zero, List.getElem_cons_succ]
          refine wpAnyH_ready (rs := [7]) (by kernel_rfl) (by simp) ?_
          refine AllReadyH.cons rfl (fun K hK => ?_) AllReadyH.nil
          go_simp
          refine (mAc _).mono ?_
          rintro e u ⟨rfl, rfl⟩
          refine hK.out _ _ trivial (fun hHeld => ?_)
          clear hK K
          try simp only [Act.put, List.setIfInBounds_toArray, List.set_cons_zero, List.set_cons_succ, List.getElem_toArray, List.getElem_cons_zero, List.getElem_cons_succ]
          refine wpAnyH_take (i := 8) (v := ?_) rfl (by kernel_rfl) (by kernel_rfl) (by kernel_rfl) (fun _ _ _ h => h) (Or.inl ⟨by rfl, ?_⟩) (by assumption) ?_
          rotate_left
          · intro w hSw; (try dsimp only at hSw); go_simp; try with_reducible rfl
          try simp only [Act.put, List.setIfInBounds_toArray, List.set_cons_zero, List.set_cons_succ, List.getElem_toArray, List.getElem_cons_zero, List.getElem_cons_succ]
          refine wpAnyH_take (i := 9) (v := ?_) rfl (by kernel_rfl) (by kernel_rfl) (by kernel_rfl) (fun _ _ _ h => h) (Or.inl ⟨by rfl, ?_⟩) (by assumption) ?_
          rotate_left
          · intro w hSw; (try dsimp only at hSw); go_simp; try with_reducible rfl
          try simp only [Act.put, List.setIfInBounds_toArray, List.set_cons_zero, List.set_cons_succ, List.getElem_toArray, List.getElem_cons_zero, List.getElem_cons_succ]
          refine wpAnyH_take (i := 10) (v := ?_) rfl (by kernel_rfl) (by kernel_rfl) (by kernel_rfl) (fun _ _ _ h => h) (Or.inl ⟨by rfl, ?_⟩) (by assumption) ?_
          rotate_left
          · intro w hSw; (try dsimp only at hSw); go_simp; try with_reducible rfl
          try simp only [Act.put, List.setIfInBounds_toArray, List.set_cons_zero, List.set_cons_succ, List.getElem_toArray, List.getElem_cons_zero, List.getElem_cons_succ]
          refine wpAnyH_ready (rs := [11]) (by kernel_rfl) (by simp) ?_
          refine AllReadyH.cons rfl (fun K hK => ?_) AllReadyH.nil
          go_simp
          refine hK.out _ _ trivial (fun hHeld => ?_)
          clear hK K
          try simp only [Act.put, List.setIfInBounds_toArray, List.set_cons_zero, List.set_cons_succ, List.getElem_toArray, List.getElem_cons_zero, List.getElem_cons_succ]
          refine wpAnyH_done (by kernel_rfl) ?_ _
          try rw [hwA]
          go_wp2
          go_meet
          case rel => exact ((H.out.set 13 (.int .i64 m9) rfl).set 14 (.int .i64 (1 + mA)) rfl).drew
        · go_simp
          refine hK.out _ _ trivial (fun hHeld => ?_)
          clear hK K
          try simp only [Act.put, List.setIfInBounds_toArray, List.set_cons_zero, List.set_cons_succ, List.getElem_toArray, List.getElem_cons_zero, List.getElem_cons_succ]
          refine wpAnyH_ready (rs := [3]) (by kernel_rfl) (by simp) ?_
          refine AllReadyH.cons rfl (fun K hK => ?_) AllReadyH.nil
          go_simp
          refine (m9c _).mono ?_
          rintro e u ⟨rfl, rfl⟩
          refine hK.out _ _ trivial (fun hHeld => ?_)
          clear hK K
          try simp only [Act.put, List.setIfInBounds_toArray, List.set_cons_zero, List.set_cons_succ, List.getElem_toArray, List.getElem_cons_zero, List.getElem_cons_succ]
          refine wpAnyH_ready (rs := [7]) (by kernel_rfl) (by simp) ?_
          refine AllReadyH.cons rfl (fun K hK => ?_) AllReadyH.nil
          go_simp
          refine (mAc _).mono ?_
          rintro e u ⟨rfl, rfl⟩
          refine hK.out _ _ trivial (fun hHeld => ?_)
          clear hK K
          try simp only [Act.put, List.setIfInBounds_toArray, List.set_cons_zero, List.set_cons_succ, List.getElem_toArray, List.getElem_cons_zero, List.getElem_cons_succ]
          refine wpAnyH_take (i := 8) (v := ?_) rfl (by kernel_rfl) (by kernel_rfl) (by kernel_rfl) (fun _ _ _ h => h) (Or.inl ⟨by rfl, ?_⟩) (by assumption) ?_
          rotate_left
          · intro w hSw; (try dsimp only at hSw); go_simp; try with_reducible rfl
          try simp only [Act.put, List.setIfInBounds_toArray, List.set_cons_zero, List.set_cons_succ, List.getElem_toArray, List.getElem_cons_zero, List.getElem_cons_succ]
          refine wpAnyH_take (i := 9) (v := ?_) rfl (by kernel_rfl) (by kernel_rfl) (by kernel_rfl) (fun _ _ _ h => h) (Or.inl ⟨by rfl, ?_⟩) (by assumption) ?_
          rotate_left
          · intro w hSw; (try dsimp only at hSw); go_simp; try with_reducible rfl
          try simp only [Act.put, List.setIfInBounds_toArray, List.set_cons_zero, List.set_cons_succ, List.getElem_toArray, List.getElem_cons_zero, List.getElem_cons_succ]
          refine wpAnyH_take (i := 10) (v := ?_) rfl (by kernel_rfl) (by kernel_rfl) (by kernel_rfl) (fun _ _ _ h => h) (Or.inl ⟨by rfl, ?_⟩) (by assumption) ?_
          rotate_left
          · intro w hSw; (try dsimp only at hSw); go_simp; try with_reducible rfl
          try simp only [Act.put, List.setIfInBounds_toArray, List.set_cons_zero, List.set_cons_succ, List.getElem_toArray, List.getElem_cons_zero, List.getElem_cons_succ]
          refine wpAnyH_ready (rs := [11]) (by kernel_rfl) (by simp) ?_
          refine AllReadyH.cons rfl (fun K hK => ?_) AllReadyH.nil
          go_simp
          refine hK.out _ _ trivial (fun hHeld => ?_)
          clear hK K
          try simp only [Act.put, List.setIfInBounds_toArray, List.set_cons_zero, List.set_cons_succ, List.getElem_toArray, List.getElem_cons_zero, List.getElem_cons_succ]
          refine wpAnyH_done (by kernel_rfl) ?_ _
          try rw [hwA]
          go_wp2
          go_meet
          case rel => exact ((H.out.set 13 (.int .i64 m9) rfl).set 14 (.int .i64 (1 + mA)) rfl).drew
      · go_simp
        refine hK.out _ _ trivial (fun hHeld => ?_)
        clear hK K
        try simp only [Act.put, List.setIfInBounds_toArray, List.set_cons_zero, List.set_cons_succ, List.getElem_toArray, List.getElem_cons_zero, List.getElem_cons_succ]
        refine wpAnyH_ready (rs := [2]) (by kernel_rfl) (by simp) ?_
        refine AllReadyH.cons rfl (fun K hK => ?_) AllReadyH.nil
        go_simp
        refine hK.out _ _ trivial (fun hHeld => ?_)
        clear hK K
        try simp only [Act.put, List.setIfInBounds_toArray, List.set_cons_zero, List.set_cons_succ, List.getElem_toArray, List.getElem_cons_zero, List.getElem_cons_succ]
        refine wpAnyH_ready (rs := [3]) (by kernel_rfl) (by simp) ?_
        refine AllReadyH.cons rfl (fun K hK => ?_) AllReadyH.nil
        go_simp
        refine (m9c _).mono ?_
        rintro e u ⟨rfl, rfl⟩
        refine hK.out _ _ trivial (fun hHeld => ?_)
        clear hK K
        try simp only [Act.put, List.setIfInBounds_toArray, List.set_cons_zero, List.set_cons_succ, List.getElem_toArray, List.getElem_cons_zero, List.getElem_cons_succ]
        refine wpAnyH_ready (rs := [7]) (by kernel_rfl) (by simp) ?_
        refine AllReadyH.cons rfl (fun K hK => ?_) AllReadyH.nil
        go_simp
        refine (mAc _).mono ?_
        rintro e u ⟨rfl, rfl⟩
        refine hK.out _ _ trivial (fun hHeld => ?_)
        clear hK K
        try simp only [Act.put, List.setIfInBounds_toArray, List.set_cons_zero, List.set_cons_succ, List.getElem_toArray, List.getElem_cons_zero, List.getElem_cons_succ]
        refine wpAnyH_take (i := 8) (v := ?_) rfl (by kernel_rfl) (by kernel_rfl) (by kernel_rfl) (fun _ _ _ h => h) (Or.inl ⟨by rfl, ?_⟩) (by assumption) ?_
        rotate_left
        · intro w hSw; (try dsimp only at hSw); go_simp; try with_reducible rfl
        try simp only [Act.put, List.setIfInBounds_toArray, List.set_cons_zero, List.set_cons_succ, List.getElem_toArray, List.getElem_cons_zero, List.getElem_cons_succ]
        refine wpAnyH_take (i := 9) (v := ?_) rfl (by kernel_rfl) (by kernel_rfl) (by kernel_rfl) (fun _ _ _ h => h) (Or.inl ⟨by rfl, ?_⟩) (by assumption) ?_
        rotate_left
        · intro w hSw; (try dsimp only at hSw); go_simp; try with_reducible rfl
        try simp only [Act.put, List.setIfInBounds_toArray, List.set_cons_zero, List.set_cons_succ, List.getElem_toArray, List.getElem_cons_zero, List.getElem_cons_succ]
        refine wpAnyH_take (i := 10) (v := ?_) rfl (by kernel_rfl) (by kernel_rfl) (by kernel_rfl) (fun _ _ _ h => h) (Or.inl ⟨by rfl, ?_⟩) (by assumption) ?_
        rotate_left
        · intro w hSw; (try dsimp only at hSw); go_simp; try with_reducible rfl
        try simp only [Act.put, List.setIfInBounds_toArray, List.set_cons_zero, List.set_cons_succ, List.getElem_toArray, List.getElem_cons_zero, List.getElem_cons_succ]
        refine wpAnyH_ready (rs := [11]) (by kernel_rfl) (by simp) ?_
        refine AllReadyH.cons rfl (fun K hK => ?_) AllReadyH.nil
        go_simp
        refine hK.out _ _ trivial (fun hHeld => ?_)
        clear hK K
        try simp only [Act.put, List.setIfInBounds_toArray, List.set_cons_zero, List.set_cons_succ, List.getElem_toArray, List.getElem_cons_zero, List.getElem_cons_succ]
        refine wpAnyH_done (by kernel_rfl) ?_ _
        try rw [hwA]
        go_wp2
        go_meet
        case rel => exact ((H.out.set 13 (.int .i64 m9) rfl).set 14 (.int .i64 (1 + mA)) rfl).drew
    case rest =>
      have HT := Lib.hid hcut
      clear H hcut d13 d14 f13 f14 hwA
      have H := HT
      clear HT
      have d0 : wc.cell? ⟨w.heap.size, 0, none⟩ = some (.int .i64 y.kind) := by rw [cell_blk H.out.b1]; rfl
      by_cases h7 : y.kind = 7
      · have g7 : (y.kind == 7) = true := by simp [h7]
        clear h7
        have d3 : wc.cell? ⟨w.heap.size, 3, none⟩ = some (.int .i64 x.n) := by rw [cell_blk H.out.b1]; rfl
        have f3 := free_blk H.out.b1 3
        go_upto_region 21 with (
          go_at_call 53
          refine (mBc _).mono ?_
          rintro e u ⟨rfl, rfl⟩)
        have H2 : TmW w (wc.setCell ⟨w.heap.size, 3, none⟩ (.int .i64 mB)) #[.int .i64 y.kind, .int .i64 y.dir, .int .i64 y.to_, .int .i64 mB, .string y.s, .string y.as_, .int .i64 y.st.node, .int .i64 y.st.kind, .int .i64 y.st.mode, .int .i64 y.st.uid, .int .i64 y.st.gid, .int .i64 y.st.links, .int .i64 y.st.size, .int .i64 m9, .int .i64 (1 + mA)] ((tb, textsA) :: ((nb, namesA) :: [])) := (H.out.set 3 (.int .i64 mB) rfl)
        obtain ⟨wz, hwz⟩ : ∃ wz, wz = (wc.setCell ⟨w.heap.size, 3, none⟩ (.int .i64 mB)) := ⟨_, rfl⟩
        rw [← hwz] at H2 ⊢
        clear hwz H d0 d3 f3 g7
        have H := Lib.hid H2
        clear H2
        have d0 : wz.cell? ⟨w.heap.size, 0, none⟩ = some (.int .i64 y.kind) := by rw [cell_blk H.out.b1]; rfl
        have d1 : wz.cell? ⟨w.heap.size, 1, none⟩ = some (.int .i64 y.dir) := by rw [cell_blk H.out.b1]; rfl
        have d2 : wz.cell? ⟨w.heap.size, 2, none⟩ = some (.int .i64 y.to_) := by rw [cell_blk H.out.b1]; rfl
        have d3 : wz.cell? ⟨w.heap.size, 3, none⟩ = some (.int .i64 mB) := by rw [cell_blk H.out.b1]; rfl
        have d4 : wz.cell? ⟨w.heap.size, 4, none⟩ = some (.string y.s) := by rw [cell_blk H.out.b1]; rfl
        have d5 : wz.cell? ⟨w.heap.size, 5, none⟩ = some (.string y.as_) := by rw [cell_blk H.out.b1]; rfl
        have d6 : wz.cell? ⟨w.heap.size, 6, none⟩ = some (.int .i64 y.st.node) := by rw [cell_blk H.out.b1]; rfl
        have d7 : wz.cell? ⟨w.heap.size, 7, none⟩ = some (.int .i64 y.st.kind) := by rw [cell_blk H.out.b1]; rfl
        have d8 : wz.cell? ⟨w.heap.size, 8, none⟩ = some (.int .i64 y.st.mode) := by rw [cell_blk H.out.b1]; rfl
        have d9 : wz.cell? ⟨w.heap.size, 9, none⟩ = some (.int .i64 y.st.uid) := by rw [cell_blk H.out.b1]; rfl
        have d10 : wz.cell? ⟨w.heap.size, 10, none⟩ = some (.int .i64 y.st.gid) := by rw [cell_blk H.out.b1]; rfl
        have d11 : wz.cell? ⟨w.heap.size, 11, none⟩ = some (.int .i64 y.st.links) := by rw [cell_blk H.out.b1]; rfl
        have d12 : wz.cell? ⟨w.heap.size, 12, none⟩ = some (.int .i64 y.st.size) := by rw [cell_blk H.out.b1]; rfl
        have d13 : wz.cell? ⟨w.heap.size, 13, none⟩ = some (.int .i64 m9) := by rw [cell_blk H.out.b1]; rfl
        have d14 : wz.cell? ⟨w.heap.size, 14, none⟩ = some (.int .i64 (1 + mA)) := by rw [cell_blk H.out.b1]; rfl
        have e := cell_blk H.out.b2
        have e0 := e 0
        have e1 := e 1
        have e2 := e 2
        have e3 := e 3
        have e4 := e 4
        have e5 := e 5
        have e6 := e 6
        have e7 := e 7
        have e8 := e 8
        have e9 := e 9
        have e10 := e 10
        have e11 := e 11
        have e12 := e 12
        have e13 := e 13
        have e14 := e 14
        simp only [tm0, List.getElem?_toArray, List.getElem?_cons_zero, List.getElem?_cons_succ] at e0 e1 e2 e3 e4 e5 e6 e7 e8 e9 e10 e11 e12 e13 e14
        have f := free_blk H.out.b2
        have f0 := f 0
        have f1 := f 1
        have f2 := f 2
        have f3 := f 3
        have f4 := f 4
        have f5 := f 5
        have f6 := f 6
        have f7 := f 7
        have f8 := f 8
        have f9 := f 9
        have f10 := f 10
        have f11 := f 11
        have f12 := f 12
        have f13 := f 13
        have f14 := f 14
        clear e f m0c m1c m2c m3c m4c m5c m6c m7c m8c m9c mAc m0l m0h m1l m1h m2l m2h m3l m3h m4l m4h m5l m5h m6l m6h m7l m7h m8l m8h m9l m9h mAl mAh HN HM
        go_wp2
        have hE := tm_end (y := ({ y with n := mB, am := m9, an := 1 + mA } : ActV)) H.out ⟨HO.out.1.kind, HO.out.1.name, HO.out.1.as_⟩ HO.out.2
        exact hE _ rfl
      · have g7 : (y.kind == 7) = false := by simp [h7]
        clear h7
        go_upto_region 21 with (fail)
        clear d0 g7
        have d0 : wc.cell? ⟨w.heap.size, 0, none⟩ = some (.int .i64 y.kind) := by rw [cell_blk H.out.b1]; rfl
        have d1 : wc.cell? ⟨w.heap.size, 1, none⟩ = some (.int .i64 y.dir) := by rw [cell_blk H.out.b1]; rfl
        have d2 : wc.cell? ⟨w.heap.size, 2, none⟩ = some (.int .i64 y.to_) := by rw [cell_blk H.out.b1]; rfl
        have d3 : wc.cell? ⟨w.heap.size, 3, none⟩ = some (.int .i64 x.n) := by rw [cell_blk H.out.b1]; rfl
        have d4 : wc.cell? ⟨w.heap.size, 4, none⟩ = some (.string y.s) := by rw [cell_blk H.out.b1]; rfl
        have d5 : wc.cell? ⟨w.heap.size, 5, none⟩ = some (.string y.as_) := by rw [cell_blk H.out.b1]; rfl
        have d6 : wc.cell? ⟨w.heap.size, 6, none⟩ = some (.int .i64 y.st.node) := by rw [cell_blk H.out.b1]; rfl
        have d7 : wc.cell? ⟨w.heap.size, 7, none⟩ = some (.int .i64 y.st.kind) := by rw [cell_blk H.out.b1]; rfl
        have d8 : wc.cell? ⟨w.heap.size, 8, none⟩ = some (.int .i64 y.st.mode) := by rw [cell_blk H.out.b1]; rfl
        have d9 : wc.cell? ⟨w.heap.size, 9, none⟩ = some (.int .i64 y.st.uid) := by rw [cell_blk H.out.b1]; rfl
        have d10 : wc.cell? ⟨w.heap.size, 10, none⟩ = some (.int .i64 y.st.gid) := by rw [cell_blk H.out.b1]; rfl
        have d11 : wc.cell? ⟨w.heap.size, 11, none⟩ = some (.int .i64 y.st.links) := by rw [cell_blk H.out.b1]; rfl
        have d12 : wc.cell? ⟨w.heap.size, 12, none⟩ = some (.int .i64 y.st.size) := by rw [cell_blk H.out.b1]; rfl
        have d13 : wc.cell? ⟨w.heap.size, 13, none⟩ = some (.int .i64 m9) := by rw [cell_blk H.out.b1]; rfl
        have d14 : wc.cell? ⟨w.heap.size, 14, none⟩ = some (.int .i64 (1 + mA)) := by rw [cell_blk H.out.b1]; rfl
        have e := cell_blk H.out.b2
        have e0 := e 0
        have e1 := e 1
        have e2 := e 2
        have e3 := e 3
        have e4 := e 4
        have e5 := e 5
        have e6 := e 6
        have e7 := e 7
        have e8 := e 8
        have e9 := e 9
        have e10 := e 10
        have e11 := e 11
        have e12 := e 12
        have e13 := e 13
        have e14 := e 14
        simp only [tm0, List.getElem?_toArray, List.getElem?_cons_zero, List.getElem?_cons_succ] at e0 e1 e2 e3 e4 e5 e6 e7 e8 e9 e10 e11 e12 e13 e14
        have f := free_blk H.out.b2
        have f0 := f 0
        have f1 := f 1
        have f2 := f 2
        have f3 := f 3
        have f4 := f 4
        have f5 := f 5
        have f6 := f 6
        have f7 := f 7
        have f8 := f 8
        have f9 := f 9
        have f10 := f 10
        have f11 := f 11
        have f12 := f 12
        have f13 := f 13
        have f14 := f 14
        clear e f m0c m1c m2c m3c m4c m5c m6c m7c m8c m9c mAc m0l m0h m1l m1h m2l m2h m3l m3h m4l m4h m5l m5h m6l m6h m7l m7h m8l m8h m9l m9h mAl mAh HN HM
        go_wp2
        have hE := tm_end (y := ({ y with n := x.n, am := m9, an := 1 + mA } : ActV)) H.out ⟨HO.out.1.kind, HO.out.1.name, HO.out.1.as_⟩ HO.out.2
        exact hE _ rfl
end Go.Proofs.YtoanccechefclaaGreatDoor
namespace Go.Proofs.YtoanccechefclaaGreatDoor
open Go Go.RowKit
def AtOk (E : WkE) (m n : Int) : Prop := E.M.over m n = none ∧ (E.M.root_ m).2 = true
structure WOk (E : WkE) (v : WkV) : Prop where
  links : 0 ≤ v.links
  at_ : AtOk E v.m v.n
  has : v.f.has = true
  am : v.f.am = v.m
  an : v.f.an = v.n
section two
variable {E : WkE} (hM : E.M.ok) (hr : AtOk E E.rm E.rn) (hT : ∀ n, TextOk (blOf (E.T.textOf n))) (hf : E.follow = true) {Q : List Bl} (hQ : Q ≠ []) (hQw : wtL Q ≤ 200)
structure Sim (E : WkE) (Q : List Bl) (a b : WkV) : Prop where
  ok : WOk E a
  m : b.m = a.m
  n : b.n = a.n
  links : b.links = a.links
  left : b.left = a.left ++ Q
  slash : a.slash = true
  short : wtL a.left + (40 - a.links).toNat * 13 ≤ 2000
include hM hr hT hf hQ hQw
def Told (E : WkE) (Q : List Bl) (A B : FoundV × Int × Int) (sl : Bool) : Prop :=
  ((A.2.1 ≠ 0 ∨ A.1.has = false) → B.2.1 ≠ 0) ∧
  (A.2.1 = 0 → A.1.has = true → ∃ b, B = kfin E b ∧ 0 ≤ b.links ∧ b.left = Q ∧ b.slash = sl ∧ b.m = A.1.am ∧ b.n = A.1.an ∧ AtOk E b.m b.n ∧ (E.T.stat b.n).1.kind = 1)
end two
structure Sim2 (b c : WkV) : Prop where
  m : b.m = c.m
  n : b.n = c.n
  left : b.left = c.left
  slash : b.slash = c.slash
  links : c.links ≤ b.links
  f : b.left ≠ [] ∨ b.f = c.f
def Like (B C : FoundV × Int × Int) : Prop := B.2.1 = 46 ∨ (B.1 = C.1 ∧ B.2.1 = C.2.1)
def PathOk (l : Bl) : Prop := l.length ≤ 80 ∧ (0 : UInt8) ∉ l
end Go.Proofs.YtoanccechefclaaGreatDoor
