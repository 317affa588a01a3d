/-
  Parts of the walk's proof: Within, TreeCur, TBoth. (joined by pack.py)
-/
import Derived.Test.YtoanccechefclaaGreatDoorChecked
import Derived.Below
import Derived.Test.YtoanccechefclaaGreatDoorK01
import Derived.Test.YtoanccechefclaaGreatDoorK10
import Derived.Test.YtoanccechefclaaGreatDoorK14
import Derived.Test.YtoanccechefclaaGreatDoorK15
import Derived.Test.YtoanccechefclaaGreatDoorK16
set_option linter.unusedSectionVars false
set_option linter.unusedSimpArgs false
set_option linter.unusedVariables false
namespace Go.Proofs.YtoanccechefclaaGreatDoor
open Go Go.RowKit
end Go.Proofs.YtoanccechefclaaGreatDoor
namespace Go.Proofs.YtoanccechefclaaGreatDoor
open Go Go.RowKit Go.Shelf
set_option maxRecDepth 100000
theorem rightIs {l : Bl} {b : Bool} (h : rightP l = b) : RightIs (txB l) b := fun U => by
  rw [← h]
  refine (right_c l U).mono ?_
  rintro e w ⟨h1, h2⟩
  exact ⟨h1, h2.symm⟩
structure TCur (W w : World) (tb : Nat) (s : TShape) (T : TreeV) (bl k : Int) : Prop where
  tab : TreeIn w tb s T
  keep : Keep W w (fun _ => False)
  new : ∀ b, s.has b → W.heap.size ≤ b
  good : T.good bl
  small : T.small k
section cur
variable {W w w' : World} {tb : Nat} {s s' : TShape} {T T' : TreeV} {bl k k' : Int}
theorem TCur.made (hk : Keep W w (fun _ => False)) (hp : TreeIn w' tb s T) (k2 : Keep w w' (fun _ => False)) (hn : ∀ b, s.has b → w.heap.size ≤ b) (hg : T.good bl) (hs : T.small k) : TCur W w' tb s T bl k :=
  ⟨hp, hk.aside k2, fun b q => by have := hn b q; have := hk.size; omega, hg, hs⟩
theorem TCur.turn (c : TCur W w tb s T bl k) (hp : TreeIn w' tb s' T') (ht : TurnT w s w' s') (hg : T'.good bl) (hs : T'.small k') : TCur W w' tb s' T' bl k' :=
  ⟨hp, c.keep.trans ht.keep (fun b q => .inr (c.new b q)), fun b q => (ht.new b q).elim (c.new b) (fun z => by have := c.keep.size; omega), hg, hs⟩
theorem TCur.step (c : TCur W w tb s T bl k) (hk : Keep w w' (fun _ => False)) : TCur W w' tb s T bl k := ⟨c.tab.aside hk, c.keep.aside hk, c.new, c.good, c.small⟩
theorem TCur.more (c : TCur W w tb s T bl k) (h : k ≤ k') : TCur W w tb s T bl k' := ⟨c.tab, c.keep, c.new, c.good, c.small.mono h⟩
theorem TCur.below (c : TCur W w tb s T bl k) : Below W.heap.size W w := c.keep.below (Nat.le_refl _) (fun b q => q.elim)
theorem newt_c (hk : Keep W w (fun _ => False)) (n b : Int) (hn : 1 ≤ n ∧ n ≤ 64) (hb : 0 ≤ b ∧ b ≤ 256) :
    Calls Tryz.prog 36 #[.int .i64 n, .int .i64 b] w fun e w' => ∃ tb s, e = .returned (.tuple #[.pointer (some ⟨tb, 0, none⟩), .int .i64 0]) ∧ TCur W w' tb s (TreeV.new n b) b 1 ∧ Keep w w' (fun _ => False) := by
  refine (tnew_c w n b hn hb).mono ?_
  rintro e w' ⟨tb, s, h1, h2, h3, h4⟩
  exact ⟨tb, s, h1, TCur.made hk h2 h3 h4 (TreeV.new_good hn.1 hn.2 hb.1 hb.2) (TreeV.new_small n b), h3⟩
variable (c : TCur W w tb s T bl k) (hk : k ≤ 900000)
include c hk
theorem make_t {key : ByteArray} {r : Bool} (hr : RightIs key r) (d : Int) (st : TreeV.StatV) (text : ByteArray) (w1 : World) (K : Keep w w1 (fun _ => False)) :
    Calls Tryz.prog 33 #[.pointer (some ⟨tb, 0, none⟩), .int .i64 d, .string key, .agg (statC st), .string text] w1 fun e w2 => e = .returned (.tuple #[.int .i64 (T.make r d key st.kind (maskV st.mode) st.uid st.gid text).2.1, .int .i64 (T.make r d key st.kind (maskV st.mode) st.uid st.gid text).2.2]) ∧
      ∃ s', TCur W w2 tb s' (T.make r d key st.kind (maskV st.mode) st.uid st.gid text).1 bl (k + 3) ∧ TurnT w1 s w2 s' := by
  have c1 := c.step K
  refine (tmake_c c1.tab c1.good (c1.small.mono hk) hr d st text).mono ?_
  rintro e w2 ⟨rfl, s', h1, h2⟩
  exact ⟨rfl, s', c1.turn h1 h2 (c1.good.make ..) (c1.small.make ..), h2⟩
theorem join_t {key : ByteArray} {r : Bool} (hr : RightIs key r) (d n : Int) (w1 : World) (K : Keep w w1 (fun _ => False)) :
    Calls Tryz.prog 41 #[.pointer (some ⟨tb, 0, none⟩), .int .i64 d, .string key, .int .i64 n] w1 fun e w2 => e = .returned (.int .i64 (T.join r d key n).2) ∧ ∃ s', TCur W w2 tb s' (T.join r d key n).1 bl (k + 3) ∧ TurnT w1 s w2 s' := by
  have c1 := c.step K
  refine (tjoin_c c1.tab c1.good (c1.small.mono hk) hr d n).mono ?_
  rintro e w2 ⟨rfl, s', h1, h2⟩
  exact ⟨rfl, s', c1.turn h1 h2 (c1.good.join ..) (c1.small.join ..), h2⟩
theorem part_t (d : Int) (key : ByteArray) (w1 : World) (K : Keep w w1 (fun _ => False)) :
    Calls Tryz.prog 43 #[.pointer (some ⟨tb, 0, none⟩), .int .i64 d, .string key] w1 fun e w2 => e = .returned (.int .i64 (T.part d key).2) ∧ ∃ s', TCur W w2 tb s' (T.part d key).1 bl (k + 3) ∧ TurnT w1 s w2 s' := by
  have c1 := c.step K
  refine (tpart_c c1.tab c1.good (c1.small.mono hk) d key).mono ?_
  rintro e w2 ⟨rfl, s', h1, h2⟩
  exact ⟨rfl, s', c1.turn h1 h2 (c1.good.part ..) (c1.small.part ..), h2⟩
theorem move_t {z : ByteArray} {r : Bool} (hr : RightIs z r) (d : Int) (key : ByteArray) (e : Int) (w1 : World) (K : Keep w w1 (fun _ => False)) :
    Calls Tryz.prog 34 #[.pointer (some ⟨tb, 0, none⟩), .int .i64 d, .string key, .int .i64 e, .string z] w1 fun a w2 => a = .returned (.int .i64 (T.move r d key e z).2) ∧ ∃ s', TCur W w2 tb s' (T.move r d key e z).1 bl (k + 3) ∧ TurnT w1 s w2 s' := by
  have c1 := c.step K
  refine (tmove_c c1.tab c1.good (c1.small.mono hk) hr d key e).mono ?_
  rintro e w2 ⟨rfl, s', h1, h2⟩
  exact ⟨rfl, s', c1.turn h1 h2 (c1.good.move ..) (c1.small.move ..), h2⟩
theorem hold_t (n : Int) (w1 : World) (K : Keep w w1 (fun _ => False)) :
    Calls Tryz.prog 92 #[.pointer (some ⟨tb, 0, none⟩), .int .i64 n] w1 fun e w2 => e = .returned (.int .i64 (T.hold n).2) ∧ ∃ s', TCur W w2 tb s' (T.hold n).1 bl (k + 3) ∧ TurnT w1 s w2 s' := by
  have c1 := c.step K
  refine (thold_c c1.tab c1.good (c1.small.mono hk) n).mono ?_
  rintro e w2 ⟨rfl, s', h1, h2⟩
  exact ⟨rfl, s', c1.turn h1 h2 (c1.good.hold ..) (c1.small.hold ..), h2⟩
end cur
section closed
abbrev ka : ByteArray := ⟨#[97]⟩
abbrev kb : ByteArray := ⟨#[98]⟩
def A0 : TreeV := TreeV.new 2 0
def A1 : TreeV := (A0.make true 1 ka 1 (maskV 0) 0 0 ByteArray.empty).1
def A2 : TreeV := (A1.make true 1 kb 1 (maskV 0) 0 0 ByteArray.empty).1
def A3 : TreeV := (A2.hold 2).1
def A4 : TreeV := (A3.part 1 ka).1
theorem a1 : (A0.make true 1 ka 1 (maskV 0) 0 0 ByteArray.empty).2 = (2, 0) := by decide +kernel
theorem a2 : (A1.make true 1 kb 1 (maskV 0) 0 0 ByteArray.empty).2 = (0, 43) := by decide +kernel
theorem a4 : (A3.part 1 ka).2 = 0 := by decide +kernel
theorem a5 : A4.find 1 ka = (0, false) := by decide +kernel
theorem a6 : (A4.stat 2).2 = true := by decide +kernel
end closed
theorem make_p {W w : World} {tb : Nat} {s : TShape} {T : TreeV} {bl k : Int} (c : TCur W w tb s T bl k) (hk : k ≤ 900000) {key : ByteArray} (hr : RightIs key true) (d kind mode uid gid : Int) (text : ByteArray) {n e : Int} {U : TreeV} (hv : (T.make true d key kind (maskV mode) uid gid text).2 = (n, e)) (hU : (T.make true d key kind (maskV mode) uid gid text).1 = U) (w1 : World) (K : Keep w w1 (fun _ => False)) :
    Calls Tryz.prog 33 #[.pointer (some ⟨tb, 0, none⟩), .int .i64 d, .string key, .agg #[.int .i64 0, .int .i64 kind, .int .i64 mode, .int .i64 uid, .int .i64 gid, .int .i64 0, .int .i64 0], .string text] w1 fun a w2 => a = .returned (.tuple #[.int .i64 n, .int .i64 e]) ∧
      ∃ s', TCur W w2 tb s' U bl (k + 3) ∧ TurnT w1 s w2 s' := by
  have h := make_t c hk hr d ⟨0, kind, mode, uid, gid, 0, 0⟩ text w1 K
  simp only [statC] at h
  rw [hv, hU] at h
  exact h
theorem right_a : RightIs ka true := rightIs (l := [97]) (by decide +kernel)
end Go.Proofs.YtoanccechefclaaGreatDoor
namespace Go.Proofs.YtoanccechefclaaGreatDoor
open Go Go.RowKit Go.Shelf
set_option maxRecDepth 100000
theorem rrightIs {l : Bl} {b : Bool} (h : rightP l = b) (hl : l.length ≤ 1000000) : RRightIs (txB l) b := fun U => by
  rw [← h]
  refine (rright_c l U hl).mono ?_
  rintro e w ⟨h1, h2⟩
  exact ⟨h1, h2.symm⟩
theorem thas_lt {w : World} {tb : Nat} {s : TShape} {T : TreeV} (h : TreeIn w tb s T) {b : Nat} (q : s.has b) : b < w.heap.size := by
  cases hg : s.tag b with
  | none => exact absurd hg q
  | some g => exact h.lt b g hg
structure TB (W w : World) (tb : Nat) (s : TShape) (T : TreeV) (rb : Nat) (r : RShape) (U : TreeV) (bl k : Int) : Prop where
  cur : TCur W w tb s T bl k
  ref : RTreeIn w rb r bl U
  up : RUp r.up U
  rgood : U.good bl
  rsmall : U.small k
  sr : ∀ b, s.has b → ¬ r.has b
  r0 : ∀ b, r.has b → W.heap.size ≤ b
section
variable {W w w' : World} {tb rb : Nat} {s s' : TShape} {r r' : RShape} {T T' U : TreeV} {bl k k' : Int}
theorem TB.turn (h : TB W w tb s T rb r U bl k) (c : TCur W w' tb s' T' bl k') (t : TurnT w s w' s') (hk : k ≤ k') : TB W w' tb s' T' rb r U bl k' :=
  ⟨c, h.ref.keep t.keep (fun b q z => h.sr b z q), h.up, h.rgood, h.rsmall.mono hk, fun b q z => (t.new b q).elim (fun y => h.sr b y z) (fun y => by have := rhas_lt h.ref z; omega), h.r0⟩
theorem TB.refs (h : TB W w tb s T rb r U bl k) (hr : RTreeIn w' rb r' bl T) (hu : RUp r'.up T) (t : TurnR w r w' r') : TB W w' tb s T rb r' T bl k :=
  ⟨⟨h.cur.tab.keep t.keep (fun b q z => h.sr b q z), h.cur.keep.trans t.keep (fun b q => .inr (h.r0 b q)), h.cur.new, h.cur.good, h.cur.small⟩, hr, hu, h.cur.good, h.cur.small, fun b q z => (t.new b z).elim (fun y => h.sr b q y) (fun y => by have := thas_lt h.cur.tab q; omega), fun b q => (t.new b q).elim (h.r0 b) (fun y => by have := h.cur.keep.size; omega)⟩
theorem TB.aside (h : TB W w tb s T rb r U bl k) (K : Keep w w' (fun _ => False)) : TB W w' tb s T rb r U bl k :=
  ⟨h.cur.step K, h.ref.aside K, h.up, h.rgood, h.rsmall, h.sr, h.r0⟩
theorem TB.more (h : TB W w tb s T rb r U bl k) (hk : k ≤ k') : TB W w tb s T rb r U bl k' := ⟨h.cur.more hk, h.ref, h.up, h.rgood, h.rsmall.mono hk, h.sr, h.r0⟩
theorem TB.set {xb : Nat} (h : TB W w tb s T rb r U bl k) (K : Keep w w' (fun b => b = xb)) (h1 : ¬ s.has xb) (h2 : ¬ r.has xb) (h3 : W.heap.size ≤ xb) : TB W w' tb s T rb r U bl k :=
  ⟨⟨h.cur.tab.keep K (fun b q z => h1 (by rw [← show b = xb from z]; exact q)), h.cur.keep.trans K (fun b q => .inr (by rw [show b = xb from q]; exact h3)), h.cur.new, h.cur.good, h.cur.small⟩, h.ref.keep K (fun b q z => h2 (by rw [← show b = xb from z]; exact q)), h.up, h.rgood, h.rsmall, h.sr, h.r0⟩
end
section
variable {W w : World} {tb : Nat} {s : TShape} {T : TreeV} {bl k : Int} (c : TCur W w tb s T bl k) (hk : k ≤ 900000)
include c hk
theorem setmode_t (n m : Int) (w1 : World) (K : Keep w w1 (fun _ => False)) :
    Calls Tryz.prog 46 #[.pointer (some ⟨tb, 0, none⟩), .int .i64 n, .int .i64 m] w1 fun e w2 => e = .returned (.int .i64 (T.setMode n (maskV m)).2) ∧ ∃ s', TCur W w2 tb s' (T.setMode n (maskV m)).1 bl (k + 3) ∧ TurnT w1 s w2 s' := by
  have c1 := c.step K
  refine (tsetmode_c c1.tab (c1.small.mono hk) n m).mono ?_
  rintro e w2 ⟨rfl, s', h1, h2⟩
  exact ⟨rfl, s', c1.turn h1 h2 (c1.good.setMode ..) (c1.small.setMode ..), h2⟩
theorem setowner_t (n u g : Int) (w1 : World) (K : Keep w w1 (fun _ => False)) :
    Calls Tryz.prog 51 #[.pointer (some ⟨tb, 0, none⟩), .int .i64 n, .int .i64 u, .int .i64 g] w1 fun e w2 => e = .returned (.int .i64 (T.setOwner n u g).2) ∧ ∃ s', TCur W w2 tb s' (T.setOwner n u g).1 bl (k + 3) ∧ TurnT w1 s w2 s' := by
  have c1 := c.step K
  refine (tsetowner_c c1.tab (c1.small.mono hk) n u g).mono ?_
  rintro e w2 ⟨rfl, s', h1, h2⟩
  exact ⟨rfl, s', c1.turn h1 h2 (c1.good.setOwner ..) (c1.small.setOwner ..), h2⟩
end
end Go.Proofs.YtoanccechefclaaGreatDoor
