/-
  The cache and the document's, side by side.
-/
import Derived.Test.YtjicoebcmfnooaaDoorR20D
import Derived.Test.YtjicoebcmfnooaaDoorR20F
import Derived.Test.YtjicoebcmfnooaaDoorDShrink
import Derived.Test.YtjicoebcmfnooaaDoorD4
namespace Go.Proofs.YtjicoebcmfnooaaDoor
open Go Go.RowKit
set_option linter.unusedSectionVars false
set_option linter.unusedSimpArgs false
set_option linter.unusedVariables false
set_option maxRecDepth 100000
attribute [local go_sem] Oper.semAt_some

theorem lnew_bad (w : World) (m : Int) (h : m < 1 ∨ 64 < m) :
    Calls Tryd.prog 22 #[.int .i64 m] w fun r w' => r = .returned (.tuple #[.pointer none, .int .i64 1]) ∧ w' = w := by
  rcases h with h | h
  · go_enter Tryd.func22, Tryd.ntmps22
    go_wp2
    go_ret2
    exact ⟨rfl, rfl⟩
  · have h' : ¬ m < 1 := by omega
    go_enter Tryd.func22, Tryd.ntmps22
    go_wp2
    go_ret2
    exact ⟨rfl, rfl⟩

theorem dnew_bad (w : World) (m : Int) (h : m < 1 ∨ 64 < m) :
    Calls Tryd.prog 7 #[.int .i64 m] w fun r w' => r = .returned (.tuple #[.pointer none, .int .i64 1]) ∧ w' = w := by
  have hn := lnew_bad w m h
  clear h
  go_enter Tryd.func7, Tryd.ntmps7
  go_wp2_with (
    go_at_call 22
    refine hn.mono ?_
    rintro e w1 ⟨rfl, hw⟩
    subst hw
    clear hn)
  go_ret2
  exact ⟨rfl, rfl⟩

structure DBoth (W w : World) (cb rb : Nat) (most : Int) (S R : Nat → Prop) (A A2 : Mem) : Prop where
  keep : Keep W w (fun _ => False)
  tab : CacheAt w cb S most A
  ref : RCAt w rb R most A2
  sr : ∀ b, S b → ¬ R b
  s0 : ∀ b, S b → W.heap.size ≤ b
  r0 : ∀ b, R b → W.heap.size ≤ b

section
variable {W w w' : World} {cb rb : Nat} {m : Int} {S R S' R' : Nat → Prop} {A A2 A' : Mem}
theorem DBoth.chain (h : DBoth W w cb rb m S R A A2) (ht : CacheAt w' cb S' m A') (k : Turn w S w' S') : DBoth W w' cb rb m S' R A' A2 :=
  ⟨h.keep.trans k.keep (fun b q => .inr (h.s0 b q)), ht, h.ref.keep k.keep (fun b q z => h.sr b z q), fun b q z => (k.new b q).elim (fun y => h.sr b y z) (fun y => by have := h.ref.lt b z; omega),
    fun b q => (k.new b q).elim (h.s0 b) (fun y => by have := h.keep.size; omega), h.r0⟩
theorem DBoth.refs (h : DBoth W w cb rb m S R A A2) (ht : RCAt w' rb R' m A') (k : Turn w R w' R') : DBoth W w' cb rb m S R' A A' :=
  ⟨h.keep.trans k.keep (fun b q => .inr (h.r0 b q)), h.tab.keep k.keep (fun b q z => h.sr b q z), ht, fun b q z => (k.new b z).elim (fun y => h.sr b q y) (fun y => by have := h.tab.lt b q; omega),
    h.s0, fun b q => (k.new b q).elim (h.r0 b) (fun y => by have := h.keep.size; omega)⟩
theorem DBoth.aside (h : DBoth W w cb rb m S R A A2) (k : Keep w w' (fun _ => False)) : DBoth W w' cb rb m S R A A2 :=
  ⟨h.keep.trans k (fun b q => q.elim), h.tab.aside k, h.ref.aside k, h.sr, h.s0, h.r0⟩

structure DBox (wr : World) (S R : Nat → Prop) (xb : Nat) (x : AskD) : Prop where
  box : wr.heap[xb]? = some (.cells #[.int .i64 x.kind, .int .i64 x.dir, .int .i64 x.n, .string x.name] 28 (0, 0))
  s : ¬ S xb
  r : ¬ R xb

variable {xb : Nat} {x : AskD}
theorem DBox.chain (h : DBox w S R xb x) (t : Turn w S w' S') : DBox w' S' R xb x :=
  ⟨t.keep.get h.box h.s, fun q => (t.new _ q).elim h.s (fun y => by have := lt_of_blk h.box; omega), h.r⟩
theorem DBox.refs (h : DBox w S R xb x) (t : Turn w R w' R') : DBox w' S R' xb x :=
  ⟨t.keep.get h.box h.r, h.s, fun q => (t.new _ q).elim h.r (fun y => by have := lt_of_blk h.box; omega)⟩
theorem DBox.aside (h : DBox w S R xb x) (t : Keep w w' (fun _ => False)) : DBox w' S R xb x :=
  ⟨t.get h.box (fun q => q), h.s, h.r⟩

def DW (W w : World) (cb rb xb : Nat) (m : Int) (S R : Nat → Prop) (A A2 : Mem) (x : AskD) : Prop := DBoth W w cb rb m S R A A2 ∧ DBox w S R xb x
theorem DW.chain (h : DW W w cb rb xb m S R A A2 x) (ht : CacheAt w' cb S' m A') (t : Turn w S w' S') : DW W w' cb rb xb m S' R A' A2 x := ⟨h.1.chain ht t, h.2.chain t⟩
theorem DW.refs (h : DW W w cb rb xb m S R A A2 x) (ht : RCAt w' rb R' m A') (t : Turn w R w' R') : DW W w' cb rb xb m S R' A A' x := ⟨h.1.refs ht t, h.2.refs t⟩
theorem DW.aside (h : DW W w cb rb xb m S R A A2 x) (t : Keep w w' (fun _ => False)) : DW W w' cb rb xb m S R A A2 x := ⟨h.1.aside t, h.2.aside t⟩
theorem DW.cells (h : DW W w cb rb xb m S R A A2 x) : w.cell? ⟨xb, 1, none⟩ = some (.int .i64 x.dir) ∧ w.cell? ⟨xb, 2, none⟩ = some (.int .i64 x.n) ∧ w.cell? ⟨xb, 3, none⟩ = some (.string x.name) :=
  ⟨by rw [cell_blk h.2.box]; rfl, by rw [cell_blk h.2.box]; rfl, by rw [cell_blk h.2.box]; rfl⟩

theorem AskD.sm {x : AskD} (h : x.fine) : Sm x.nm := ⟨⟨h.1.1, h.1.2⟩, h.2⟩

theorem get_dw (h : DW W w cb rb xb m S R A A2 x) (hp : Pw W) (hf : x.fine) (w1 : World) (K : Keep w w1 (fun _ => False)) :
    Calls Tryd.prog 10 #[.pointer (some ⟨cb, 0, none⟩), .int .i64 x.dir, .string x.name] w1 fun e w4 => e = .returned (.tuple #[.int .i64 (getA A x.nm).2.1, .int .i64 (getA A x.nm).2.2]) ∧ ∃ S', DW W w4 cb rb xb m S' R (getA A x.nm).1 A2 x := by
  have h1 := h.aside K
  refine (dget_c h1.1.tab (hp.keep h1.1.keep) x.dir x.name hf).mono ?_
  rintro e w4 ⟨rfl, S', hL, hT⟩
  exact ⟨rfl, S', h1.chain hL hT⟩
theorem rget_dw (h : DW W w cb rb xb m S R A A2 x) (hf : x.fine) (w1 : World) (K : Keep w w1 (fun _ => False)) :
    Calls Tryd.prog 16 #[.pointer (some ⟨rb, 0, none⟩), .int .i64 x.dir, .string x.name] w1 fun e w4 => e = .returned (.tuple #[.int .i64 (getA A2 x.nm).2.1, .int .i64 (getA A2 x.nm).2.2]) ∧ ∃ R', DW W w4 cb rb xb m S R' A (getA A2 x.nm).1 x := by
  have h1 := h.aside K
  refine (krget_c h1.1.ref x.nm (AskD.sm hf)).mono ?_
  rintro e w4 ⟨rfl, S', hL, hT⟩
  exact ⟨rfl, S', h1.refs hL hT⟩

theorem put_dw (h : DW W w cb rb xb m S R A A2 x) (hp : Pw W) (hf : x.fine) (w1 : World) (K : Keep w w1 (fun _ => False)) :
    Calls Tryd.prog 8 #[.pointer (some ⟨cb, 0, none⟩), .int .i64 x.dir, .string x.name, .int .i64 x.n] w1 fun e w4 => e = .returned (.string (putA m A x.nm x.n).2) ∧ ∃ S', DW W w4 cb rb xb m S' R (putA m A x.nm x.n).1 A2 x := by
  have h1 := h.aside K
  refine (dput_c h1.1.tab (hp.keep h1.1.keep) x.dir x.name x.n hf).mono ?_
  rintro e w4 ⟨rfl, S', hL, hT⟩
  exact ⟨rfl, S', h1.chain hL hT⟩
theorem rput_dw (h : DW W w cb rb xb m S R A A2 x) (hf : x.fine) (w1 : World) (K : Keep w w1 (fun _ => False)) :
    Calls Tryd.prog 17 #[.pointer (some ⟨rb, 0, none⟩), .int .i64 x.dir, .string x.name, .int .i64 x.n] w1 fun e w4 => e = .returned (.string (putA m A2 x.nm x.n).2) ∧ ∃ R', DW W w4 cb rb xb m S R' A (putA m A2 x.nm x.n).1 x := by
  have h1 := h.aside K
  refine (krput_c h1.1.ref x.nm (AskD.sm hf) x.n).mono ?_
  rintro e w4 ⟨rfl, S', hL, hT⟩
  exact ⟨rfl, S', h1.refs hL hT⟩

theorem drop_dw (h : DW W w cb rb xb m S R A A2 x) (hp : Pw W) (hf : x.fine) (w1 : World) (K : Keep w w1 (fun _ => False)) :
    Calls Tryd.prog 9 #[.pointer (some ⟨cb, 0, none⟩), .int .i64 x.dir, .string x.name] w1 fun e w4 => e = .returned (.bool (dropA A x.nm).2) ∧ ∃ S', DW W w4 cb rb xb m S' R (dropA A x.nm).1 A2 x := by
  have h1 := h.aside K
  refine (ddrop_c h1.1.tab (hp.keep h1.1.keep) x.dir x.name hf).mono ?_
  rintro e w4 ⟨rfl, S', hL, hT⟩
  exact ⟨rfl, S', h1.chain hL hT⟩
theorem rdrop_dw (h : DW W w cb rb xb m S R A A2 x) (hf : x.fine) (w1 : World) (K : Keep w w1 (fun _ => False)) :
    Calls Tryd.prog 18 #[.pointer (some ⟨rb, 0, none⟩), .int .i64 x.dir, .string x.name] w1 fun e w4 => e = .returned (.bool (dropA A2 x.nm).2) ∧ ∃ R', DW W w4 cb rb xb m S R' A (dropA A2 x.nm).1 x := by
  have h1 := h.aside K
  refine (krdrop_c h1.1.ref x.nm (AskD.sm hf)).mono ?_
  rintro e w4 ⟨rfl, S', hL, hT⟩
  exact ⟨rfl, S', h1.refs hL hT⟩

theorem forget_dw (h : DW W w cb rb xb m S R A A2 x) (hp : Pw W) (hf : x.fine) (w1 : World) (K : Keep w w1 (fun _ => False)) :
    Calls Tryd.prog 13 #[.pointer (some ⟨cb, 0, none⟩), .int .i64 x.dir] w1 fun e w4 => e = .returned (.int .i64 (forgetA A x.dir).2) ∧ ∃ S', DW W w4 cb rb xb m S' R (forgetA A x.dir).1 A2 x := by
  have h1 := h.aside K
  refine (dforget_c h1.1.tab (fun U kU => hp.keep (h1.1.keep.trans kU (fun b q => .inr (q.elim (h1.1.s0 b) (fun q => Nat.le_trans h1.1.keep.size q))))) x.dir hf.1).mono ?_
  rintro e w4 ⟨rfl, S', hL, hT⟩
  exact ⟨rfl, S', h1.chain hL hT⟩
theorem rforget_dw (h : DW W w cb rb xb m S R A A2 x) (w1 : World) (K : Keep w w1 (fun _ => False)) :
    Calls Tryd.prog 19 #[.pointer (some ⟨rb, 0, none⟩), .int .i64 x.dir] w1 fun e w4 => e = .returned (.int .i64 (forgetA A2 x.dir).2) ∧ ∃ R', DW W w4 cb rb xb m S R' A (forgetA A2 x.dir).1 x := by
  have h1 := h.aside K
  refine (krforget_c h1.1.ref x.dir).mono ?_
  rintro e w4 ⟨rfl, S', hL, hT⟩
  exact ⟨rfl, S', h1.refs hL hT⟩

theorem shrink_dw (h : DW W w cb rb xb m S R A A2 x) (w1 : World) (K : Keep w w1 (fun _ => False)) :
    Calls Tryd.prog 14 #[.pointer (some ⟨cb, 0, none⟩), .int .i64 x.n] w1 fun e w4 => e = .returned (.int .i64 (shrinkA A x.n).2) ∧ ∃ S', DW W w4 cb rb xb m S' R (shrinkA A x.n).1 A2 x := by
  have h1 := h.aside K
  refine (dshrink_c h1.1.tab x.n).mono ?_
  rintro e w4 ⟨rfl, S', hL, hT⟩
  exact ⟨rfl, S', h1.chain hL hT⟩
theorem rshrink_dw (h : DW W w cb rb xb m S R A A2 x) (w1 : World) (K : Keep w w1 (fun _ => False)) :
    Calls Tryd.prog 20 #[.pointer (some ⟨rb, 0, none⟩), .int .i64 x.n] w1 fun e w4 => e = .returned (.int .i64 (shrinkA A2 x.n).2) ∧ ∃ R', DW W w4 cb rb xb m S R' A (shrinkA A2 x.n).1 x := by
  have h1 := h.aside K
  refine (krshrink_c h1.1.ref x.n).mono ?_
  rintro e w4 ⟨rfl, S', hL, hT⟩
  exact ⟨rfl, S', h1.refs hL hT⟩
end

end Go.Proofs.YtjicoebcmfnooaaDoor
