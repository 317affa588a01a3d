/-
  A row of two hundred numbers that a law keeps.
-/
import Derived.Test.YtnjfcedkfobbcaaTreeLv1
import Derived.Test.YtnjfcedkfobbcaaQue
namespace Go.Proofs.Ytnjfcedkfobbcaa
open Go Go.RowKit Go.Shelf
set_option linter.unusedSectionVars false
set_option linter.unusedSimpArgs false
set_option linter.unusedVariables false

def ArrH (w : World) (b : Nat) (F : Int → Int) : Prop := ∃ arr : Array Value, w.heap[b]? = some (.cells arr 56 (0, 0)) ∧ ∀ i : Nat, i < 200 → arr[i]? = some (.int .i64 (F i))
namespace ArrH
variable {w w2 : World} {b : Nat} {F : Int → Int}
theorem keep (h : ArrH w b F) {S : Nat → Prop} (k : Keep w w2 S) (hS : ¬ S b) : ArrH w2 b F := by
  obtain ⟨arr, h1, h2⟩ := h
  exact ⟨arr, k.get h1 hS, h2⟩
theorem lt (h : ArrH w b F) : b < w.heap.size := by obtain ⟨arr, h1, h2⟩ := h; exact lt_of_blk h1
theorem cell (h : ArrH w b F) {n : Int} (h0 : 0 ≤ n) (hn : n < 200) : w.cell? ⟨b, n.toNat, none⟩ = some (.int .i64 (F n)) := by
  obtain ⟨arr, h1, h2⟩ := h
  rw [cell_blk h1]
  have := h2 n.toNat (by omega)
  rw [show ((n.toNat : Nat) : Int) = n by omega] at this
  exact this
theorem free (h : ArrH w b F) (i : Nat) : w.frozen? ⟨b, i, none⟩ = false := by obtain ⟨arr, h1, h2⟩ := h; exact free_blk h1 _
theorem set (h : ArrH w b F) {n : Int} (h0 : 0 ≤ n) (hn : n < 200) (v : Int) : ArrH (w.setCell ⟨b, n.toNat, none⟩ (.int .i64 v)) b (fun m => if m = n then v else F m) := by
  obtain ⟨arr, h1, h2⟩ := h
  refine ⟨_, heap_setCell_eq (off := n.toNat) (Value.int .i64 v) h1, fun i hi => ?_⟩
  have hs : n.toNat < arr.size := (Array.getElem?_eq_some_iff.1 (h2 n.toNat (by omega))).1
  rw [Array.getElem?_setIfInBounds]
  by_cases q : n.toNat = i
  · rw [if_pos q, if_pos hs]; simp only; rw [if_pos (show (i : Int) = n by omega)]
  · rw [if_neg q]; simp only; rw [if_neg (show ¬ (i : Int) = n by omega)]
    exact h2 i hi
theorem congr (h : ArrH w b F) {G : Int → Int} (e : ∀ n : Int, 0 ≤ n → n < 200 → F n = G n) : ArrH w b G := by
  obtain ⟨arr, h1, h2⟩ := h
  exact ⟨arr, h1, fun i hi => by rw [h2 i hi, e i (by omega) (by omega)]⟩
theorem zero (h : w.heap[b]? = some (.cells (List.replicate 200 (Value.int .i64 0)).toArray 56 (0, 0))) : ArrH w b (fun _ => 0) :=
  ⟨_, h, fun i hi => by rw [List.getElem?_toArray, List.getElem?_replicate, if_pos hi]⟩
end ArrH

theorem has_lt {w : World} {tb : Nat} {s : TShape} {T : TreeV} (h : TreeIn w tb s T) {b : Nat} (q : s.has b) : b < w.heap.size := by
  cases hg : s.tag b with
  | none => exact absurd hg q
  | some g => exact h.lt b g hg
theorem Hd.new (n b : Int) : Hd (TreeV.new n b) (fun _ => 0) := by
  refine ⟨by simp [TreeV.new], fun m => ?_, fun _ => Int.le_refl _⟩
  unfold TreeV.holdsAt TreeV.new
  simp only [aget]
  by_cases q : 1 = m
  · rw [if_pos q]
  · rw [if_neg q]
theorem Hd.ext {T : TreeV} {H G : Int → Int} (h : Hd T H) (e : ∀ n, H n = G n) : Hd T G := by
  obtain rfl : H = G := funext e
  exact h
theorem Hd.le {W w : World} {tb : Nat} {s : TShape} {T : TreeV} {bl k : Int} (c : TCur W w tb s T bl k) {H : Int → Int} (h : Hd T H) (n : Int) : H n ≤ k := by
  rw [← h.h n]
  unfold TreeV.holdsAt
  cases hx : aget T.all n with
  | none => have := c.small.nonneg; exact this
  | some x => exact (c.small.node hx).1

theorem zeroH : Try.zeroCells56 = (List.replicate 200 (Value.int .i64 0)).toArray := by kernel_rfl

/-- What the law holds: a tree, and how often it holds each node. -/
structure LvS (W w : World) (tb hb : Nat) (s : TShape) (T : TreeV) (H : Int → Int) (k : Int) : Prop where
  cur : TCur W w tb s T 10 k
  hd : Hd T H
  arr : ArrH w hb H
  off : ¬ s.has hb
  new : W.heap.size ≤ hb
  most : T.most = 20
namespace LvS
variable {W w w2 : World} {tb hb : Nat} {s s2 : TShape} {T T2 : TreeV} {H H2 : Int → Int} {k k2 : Int} (h : LvS W w tb hb s T H k)
include h
theorem step (K : Keep w w2 (fun _ => False)) : LvS W w2 tb hb s T H k := ⟨h.cur.step K, h.hd, h.arr.keep K (fun q => q), h.off, h.new, h.most⟩
theorem turn (c : TCur W w2 tb s2 T2 10 k2) (t : TurnT w s w2 s2) (hd : Hd T2 H2) (e : ∀ n, H2 n = H n) (m : T2.most = T.most) : LvS W w2 tb hb s2 T2 H k2 :=
  ⟨c, hd.ext e, h.arr.keep t.keep h.off, fun q => (t.new _ q).elim h.off (fun z => by have := h.arr.lt; omega), h.new, by rw [m]; exact h.most⟩
/-- A call that holds, or lets go, and the law's store behind it. -/
theorem stored (c : TCur W w2 tb s2 T2 10 k2) (t : TurnT w s w2 s2) {d v : Int} (h0 : 0 ≤ d) (h1 : d < 200) (hd : Hd T2 (fun m => if m = d then v else H m)) (m : T2.most = T.most) : LvS W (w2.setCell ⟨hb, d.toNat, none⟩ (.int .i64 v)) tb hb s2 T2 (fun m => if m = d then v else H m) k2 := by
  have hlt := h.arr.lt
  have hoff : ¬ s2.has hb := fun q => (t.new _ q).elim h.off (fun z => by omega)
  have ks := Keep.setCell w2 ⟨hb, d.toNat, none⟩ (.int .i64 v)
  have hnew := h.new
  exact ⟨⟨c.tab.keep ks (fun b q e => hoff (by rw [← show b = hb from e]; exact q)), c.keep.trans ks (fun b e => .inr (by rw [show b = hb from e]; exact hnew)), c.new, c.good, c.small⟩, hd, (h.arr.keep t.keep h.off).set h0 h1 v, hoff, h.new, by rw [m]; exact h.most⟩
theorem more (e : k ≤ k2) : LvS W w tb hb s T H k2 := ⟨h.cur.more e, h.hd, h.arr, h.off, h.new, h.most⟩
theorem le (n : Int) : H n ≤ k := Hd.le h.cur h.hd n
end LvS

theorem live_p {W w : World} {tb : Nat} {s : TShape} {T : TreeV} {bl k : Int} (c : TCur W w tb s T bl k) {n : Nat} (hn : T.all.length = n) (w1 : World) (K : Keep w w1 (fun _ => False)) :
    Calls Try.prog 23 #[.pointer (some ⟨tb, 0, none⟩)] w1 fun e w2 => ∃ va vc, e = .returned (.slice va n vc) ∧ Keep w1 w2 (fun _ => False) := by
  have c1 := c.step K
  refine (tlive_c c1.tab c1.good.ok).mono ?_
  rintro e w6 ⟨v6, rfl, r1, r2, r3⟩
  obtain ⟨va, vc, rfl, -⟩ := rows_val2 r1
  refine ⟨va, vc, ?_, r2⟩
  rw [show T.live.length = n by unfold TreeV.live; rw [List.length_map, hn]]
theorem left_p {W w : World} {tb : Nat} {s : TShape} {T : TreeV} {bl k : Int} (c : TCur W w tb s T bl k) (hm : T.most = 20) {n : Nat} (hn : T.all.length = n) (w1 : World) (K : Keep w w1 (fun _ => False)) :
    Calls Try.prog 22 #[.pointer (some ⟨tb, 0, none⟩)] w1 fun e w2 => e = .returned (.int .i64 (20 - (n : Int))) ∧ Keep w1 w2 (fun _ => False) := by
  have c1 := c.step K
  refine (tleft_c c1.tab c1.good.ok.room).mono ?_
  rintro e w6 ⟨rfl, r2⟩
  refine ⟨?_, r2⟩
  unfold TreeV.left
  rw [hm, hn]

theorem int_infoL : ∃ i, Try.prog.info? 3 = some i ∧ i.zero = some (.int .i64 0) ∧ i.size = 1 ∧ i.bytes ≤ 64 := by
  have h : (Try.prog.info? 3).map (fun i => (i.zero, i.size, i.bytes)) = some (some (.int .i64 0), 1, 8) := by kernel_rfl
  cases hh : Try.prog.info? 3 with
  | none => rw [hh] at h; simp at h
  | some i =>
    rw [hh] at h
    simp only [Option.map_some, Option.some.injEq, Prod.mk.injEq] at h
    exact ⟨i, rfl, h.1, h.2.1, by omega⟩

/-- What the law's second loop holds: what has been counted, and the Dirs that wait. -/
structure LvB (W0 w : World) (rb : Nat) (P Q : List Int) (q off cap : Nat) : Prop where
  keep : Keep W0 w (fun _ => False)
  arr : ArrH w rb (reachOf P)
  que : QueAt W0 w (Q.map (Value.int .i64)) q off cap
  ne : q ≠ rb
  new : W0.heap.size ≤ rb
namespace LvB
variable {W0 w w2 : World} {rb q off cap : Nat} {P Q : List Int}
theorem start (w : World) (T : TreeV) : LvB w ((w.alloc (.cells ((List.replicate 200 (Value.int .i64 0)).toArray.setIfInBounds 1 (.int .i64 1)) 56)).alloc (.cells #[.int .i64 1] 3)) w.heap.size [] [1] (w.heap.size + 1) 0 1 := by
  obtain ⟨k, b1, b2, z⟩ := boxes2 w (.cells ((List.replicate 200 (Value.int .i64 0)).toArray.setIfInBounds 1 (.int .i64 1)) 56) (.cells #[.int .i64 1] 3)
  refine ⟨k, ⟨_, b1, fun i hi => ?_⟩, ⟨by simp, by unfold maxLen; omega, by omega, by omega, fun i u hu => ?_, fun j h1 h2 => by simp at h1; omega⟩, by omega, Nat.le_refl _⟩
  · rw [Array.getElem?_setIfInBounds]
    unfold reachOf
    by_cases e : 1 = i
    · subst e
      rw [if_pos rfl, if_pos (by rw [List.size_toArray, List.length_replicate]; decide)]
      rfl
    · rw [if_neg e, if_neg (by omega), List.getElem?_toArray, List.getElem?_replicate, if_pos hi]
      rfl
  · cases i with
    | zero =>
      simp at hu
      subst hu
      rw [cell_blk b2]
      rfl
    | succ i => simp at hu
theorem step (h : LvB W0 w rb P Q q off cap) (k : Keep w w2 (fun _ => False)) : LvB W0 w2 rb P Q q off cap :=
  ⟨h.keep.aside k, h.arr.keep k (fun e => e), h.que.aside k, h.ne, h.new⟩
theorem pop {d : Int} (h : LvB W0 w rb P (d :: Q) q off cap) : LvB W0 w rb P Q q (off + 1) (cap - 1) := ⟨h.keep, h.arr, h.que.tail, h.ne, h.new⟩
theorem last {d : Int} (h : LvB W0 w rb P [d] q off cap) (hc : cap = 1) : LvB W0 w rb P [] q off 0 :=
  ⟨h.keep, h.arr, ⟨by simp, by unfold maxLen; omega, h.que.new, h.que.lt, fun i u hu => by simp at hu, fun j h1 h2 => by omega⟩, h.ne, h.new⟩
theorem count (h : LvB W0 w rb P Q q off cap) {n : Int} (h0 : 0 ≤ n) (h1 : n < 200) : LvB W0 (w.setCell ⟨rb, n.toNat, none⟩ (.int .i64 (reachOf P n + 1))) rb (P ++ [n]) Q q off cap := by
  have ks := Keep.setCell w ⟨rb, n.toNat, none⟩ (.int .i64 (reachOf P n + 1))
  have hn := h.new
  refine ⟨h.keep.trans ks (fun b e => .inr (by rw [show b = rb from e]; exact hn)), (h.arr.set h0 h1 (reachOf P n + 1)).congr (fun m _ _ => (reach_snoc P n m).symm), h.que.beside ks (fun e => h.ne e), h.ne, h.new⟩
theorem pushed (h : LvB W0 w rb P Q q off cap) {q8 off8 cap8 : Nat} {n : Int} (hq : QueAt W0 w2 (Q.map (Value.int .i64) ++ [.int .i64 n]) q8 off8 cap8) (k : Keep w w2 (fun b => b = q)) (hn : q8 = q ∨ w.heap.size ≤ q8) : LvB W0 w2 rb P (Q ++ [n]) q8 off8 cap8 :=
  ⟨h.keep.trans k (fun b e => .inr (by rw [show b = q from e]; exact h.que.new)), h.arr.keep k (fun e => h.ne (show rb = q from e).symm), by rw [List.map_append]; exact hq, by
    rcases hn with e | e
    · rw [e]; exact h.ne
    · have := h.arr.lt; omega, h.new⟩
theorem popped {d : Int} (h : LvB W0 w rb P (d :: Q) q off cap) : ∃ o2, (if cap = 1 then some (⟨q, off, none⟩ : Addr) else some ⟨q, off + 1, none⟩) = some ⟨q, o2, none⟩ ∧ LvB W0 w rb P Q q o2 (cap - 1) := by
  by_cases e : cap = 1
  · rw [if_pos e]
    have hl := h.que.le
    simp only [List.map_cons, List.length_cons, List.length_map] at hl
    obtain rfl : Q = [] := List.length_eq_zero_iff.1 (by omega)
    subst e
    exact ⟨off, rfl, h.last rfl⟩
  · rw [if_neg e]
    exact ⟨off + 1, rfl, h.pop⟩
end LvB

/-- A Dir's names, in order, in a block of their own. -/
structure LvN (w : World) (na : Option Addr) (nn nc : Nat) (l : List ByteArray) (rb q : Nat) : Prop where
  list : ListIn w (.slice na nn nc) (l.map Value.string)
  clear : ∀ b, (Value.slice na nn nc).ownBlock = some b → b ≠ rb ∧ b ≠ q ∧ b < w.heap.size
namespace LvN
variable {w w2 : World} {na : Option Addr} {nn nc rb q q8 : Nat} {l : List ByteArray}
theorem step (h : LvN w na nn nc l rb q) (k : Keep w w2 (fun _ => False)) : LvN w2 na nn nc l rb q :=
  ⟨h.list.aside k, fun b e => ⟨(h.clear b e).1, (h.clear b e).2.1, Nat.lt_of_lt_of_le (h.clear b e).2.2 k.size⟩⟩
theorem count (h : LvN w na nn nc l rb q) (i : Nat) (v : Value) : LvN (w.setCell ⟨rb, i, none⟩ v) na nn nc l rb q :=
  have ks := Keep.setCell w ⟨rb, i, none⟩ v
  ⟨h.list.keep ks (fun b e z => (h.clear b e).1 z), fun b e => ⟨(h.clear b e).1, (h.clear b e).2.1, Nat.lt_of_lt_of_le (h.clear b e).2.2 ks.size⟩⟩
theorem pushed (h : LvN w na nn nc l rb q) (k : Keep w w2 (fun b => b = q)) (hn : q8 = q ∨ w.heap.size ≤ q8) : LvN w2 na nn nc l rb q8 :=
  ⟨h.list.keep k (fun b e z => (h.clear b e).2.1 z), fun b e => ⟨(h.clear b e).1, fun z => by
    have := h.clear b e
    rcases hn with y | y
    · exact this.2.1 (z.trans y)
    · omega, Nat.lt_of_lt_of_le (h.clear b e).2.2 k.size⟩⟩
end LvN

theorem BfsIn.len {T : TreeV} {D Q : List Int} {d : Int} {i : Nat} (b : BfsIn T D d Q i) : D.length + Q.length + 1 ≤ T.all.length := by
  have := sum_sub (f := fun _ => 1) b.nd (K := T.all.map Prod.fst) (fun e he => by obtain ⟨x, _, _, q⟩ := isDir_mem (b.dirs e he); exact q)
  rw [sum_ones, sum_ones, List.length_append, List.length_map, List.length_cons] at this
  omega
/-- A name of a Dir: what it leads to. -/
theorem live_child {T : TreeV} (h : T.ok) {k : Int} (hs : T.small k) {D Q : List Int} {d : Int} {i : Nat} (b : BfsIn T D d Q i) {x : NodeV} (hd : T.dir d = some x) {s : ByteArray} (hsn : (sortedN x.names)[i]? = some s) :
    ∃ n v, aget x.names s = some n ∧ (kidsOf T d)[i]? = some n ∧ T.find d s = (n, true) ∧ T.stat n = (v, true) ∧ (v.kind = 1 ↔ T.isDir n = true) ∧ 1 < n ∧ n ≤ k ∧
      (T.isDir n = true → T.upOf n = d) ∧ 0 ≤ reachOf (D.flatMap (kidsOf T) ++ (kidsOf T d).take i) n ∧ reachOf (D.flatMap (kidsOf T) ++ (kidsOf T d).take i) n ≤ k ∧ (T.isDir n = true → reachOf (D.flatMap (kidsOf T) ++ (kidsOf T d).take i) n = 0) := by
  have hx := TreeV.dir_some hd
  have hm := aget_memN hx.1
  obtain ⟨n, hn, hmem⟩ := sorted_found (h.once _ hm) hsn
  have hkid : (kidsOf T d)[i]? = some n := by
    rw [kids_dir hd, List.getElem?_map, hsn]
    simp only [Option.map_some, hn, Option.getD_some]
  have hk2 := h.kids _ hm _ hmem
  simp only at hk2
  obtain ⟨y, hy⟩ : ∃ y, aget T.all n = some y := by
    cases hq : aget T.all n with
    | some y => exact ⟨y, rfl⟩
    | none => exact absurd hk2.2 (aget_out hq)
  have hym := aget_memN hy
  have hr := h.range _ hym
  simp only at hr
  have hks : (T.statOf n y).kind = y.kind := by
    unfold TreeV.statOf
    split
    · rfl
    · split <;> rfl
  have hsum := h.names_sum n
  have hnd : (D ++ [d]).Nodup := by
    have := b.nd
    rw [show D ++ d :: Q = (D ++ [d]) ++ Q by simp] at this
    exact (List.nodup_append.1 this).1
  have hle := sum_sub (f := fun e => (kidsOf T e).count n) hnd (K := T.all.map Prod.fst) (fun e he => by
    obtain ⟨x, _, _, q⟩ := isDir_mem (b.dirs e (by
      rw [show D ++ d :: Q = (D ++ [d]) ++ Q by simp]
      exact List.mem_append.2 (.inl he)))
    exact q)
  rw [← hsum, List.map_append, List.sum_append] at hle
  simp only [List.map_cons, List.map_nil, List.sum_cons, List.sum_nil, Nat.add_zero] at hle
  rw [← count_flat] at hle
  have htk : ((kidsOf T d).take i).count n ≤ (kidsOf T d).count n := (List.take_sublist i _).count_le n
  have hl := h.links _ hym
  have hl2 := (hs.node hy).2.1
  simp only at hl
  have hre : reachOf (D.flatMap (kidsOf T) ++ (kidsOf T d).take i) n = ((D.flatMap (kidsOf T) ++ (kidsOf T d).take i).count n : Int) := by
    unfold reachOf
    rw [if_neg hk2.1]
    omega
  refine ⟨n, T.statOf n y, hn, hkid, by unfold TreeV.find; rw [hd]; simp only [hn], by unfold TreeV.stat; rw [hy], ?_, by omega, by have := hs.made; omega, fun q => ?_, by rw [hre]; omega, ?_, fun q => ?_⟩
  · rw [hks]
    unfold TreeV.isDir TreeV.dir
    rw [hy]
    by_cases q : y.kind = 1 <;> simp [q]
  · obtain ⟨z, hz, hz2, -⟩ := isDir_mem q
    rw [hy] at hz2
    cases hz2
    unfold TreeV.upOf
    rw [hz]
    have hyk := (TreeV.dir_some hz).2
    have hup := h.ups _ hm _ hmem y hy hyk
    have hpos : 0 < y.links := by
      have : 0 < (kidsOf T d).count n := List.count_pos_iff.2 (List.mem_of_getElem? hkid)
      omega
    simp only at hup
    unfold TreeV.named
    simp only [hpos, decide_true, Bool.or_true, if_true]
    exact hup
  · rw [hre, List.count_append]
    omega
  · rw [hre, Bfs.once h b hkid q hk2.1]
    rfl

end Go.Proofs.Ytnjfcedkfobbcaa
