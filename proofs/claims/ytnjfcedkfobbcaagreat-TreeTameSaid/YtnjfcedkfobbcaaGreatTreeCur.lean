/-
  A tree under way; known.
-/
import Derived.Test.YtnjfcedkfobbcaaGreatTreeWs
import Derived.Test.YtnjfcedkfobbcaaGreatTreeNames
import Derived.Test.YtnjfcedkfobbcaaGreatNRights
import Derived.Test.YtnjfcedkfobbcaaGreatWithin
import Derived.Below
namespace Go.Proofs.YtnjfcedkfobbcaaGreat
open Go Go.RowKit Go.Shelf
set_option linter.unusedSectionVars false
set_option linter.unusedSimpArgs false
set_option linter.unusedVariables false
set_option maxRecDepth 100000

theorem rightIs {l : Bl} {b : Bool} (h : rightP l = b) : RightIs (txB l) b := fun U => by
  rw [← h]
  refine (right_c l U).mono ?_
  rintro e w ⟨h1, h2⟩
  exact ⟨h1, h2.symm⟩

/-- A tree that the walk has made. -/
structure TCur (W w : World) (tb : Nat) (s : TShape) (T : TreeV) (bl k : Int) : Prop where
  tab : TreeIn w tb s T
  keep : Keep W w (fun _ => False)
  new : ∀ b, s.has b → W.heap.size ≤ b
  good : T.good bl
  small : T.small k

section cur
variable {W w w' : World} {tb : Nat} {s s' : TShape} {T T' : TreeV} {bl k k' : Int}
theorem TCur.made (hk : Keep W w (fun _ => False)) (hp : TreeIn w' tb s T) (k2 : Keep w w' (fun _ => False)) (hn : ∀ b, s.has b → w.heap.size ≤ b) (hg : T.good bl) (hs : T.small k) : TCur W w' tb s T bl k :=
  ⟨hp, hk.aside k2, fun b q => by have := hn b q; have := hk.size; omega, hg, hs⟩
theorem TCur.turn (c : TCur W w tb s T bl k) (hp : TreeIn w' tb s' T') (ht : TurnT w s w' s') (hg : T'.good bl) (hs : T'.small k') : TCur W w' tb s' T' bl k' :=
  ⟨hp, c.keep.trans ht.keep (fun b q => .inr (c.new b q)), fun b q => (ht.new b q).elim (c.new b) (fun z => by have := c.keep.size; omega), hg, hs⟩
theorem TCur.step (c : TCur W w tb s T bl k) (hk : Keep w w' (fun _ => False)) : TCur W w' tb s T bl k := ⟨c.tab.aside hk, c.keep.aside hk, c.new, c.good, c.small⟩
theorem TCur.more (c : TCur W w tb s T bl k) (h : k ≤ k') : TCur W w tb s T bl k' := ⟨c.tab, c.keep, c.new, c.good, c.small.mono h⟩
theorem TCur.below (c : TCur W w tb s T bl k) : Below W.heap.size W w := c.keep.below (Nat.le_refl _) (fun b q => q.elim)

theorem newt_c (hk : Keep W w (fun _ => False)) (n b : Int) (hn : 1 ≤ n ∧ n ≤ 64) (hb : 0 ≤ b ∧ b ≤ 256) :
    Calls Tryz.prog 4 #[.int .i64 n, .int .i64 b] w fun e w' => ∃ tb s, e = .returned (.tuple #[.pointer (some ⟨tb, 0, none⟩), .int .i64 0]) ∧ TCur W w' tb s (TreeV.new n b) b 1 ∧ Keep w w' (fun _ => False) := by
  refine (tnew_c w n b hn hb).mono ?_
  rintro e w' ⟨tb, s, h1, h2, h3, h4⟩
  exact ⟨tb, s, h1, TCur.made hk h2 h3 h4 (TreeV.new_good hn.1 hn.2 hb.1 hb.2) (TreeV.new_small n b), h3⟩

variable (c : TCur W w tb s T bl k) (hk : k ≤ 900000)
include c hk
theorem make_t {key : ByteArray} {r : Bool} (hr : RightIs key r) (d : Int) (st : TreeV.StatV) (text : ByteArray) (w1 : World) (K : Keep w w1 (fun _ => False)) :
    Calls Tryz.prog 14 #[.pointer (some ⟨tb, 0, none⟩), .int .i64 d, .string key, .agg (statC st), .string text] w1 fun e w2 => e = .returned (.tuple #[.int .i64 (T.make r d key st.kind (maskV st.mode) st.uid st.gid text).2.1, .int .i64 (T.make r d key st.kind (maskV st.mode) st.uid st.gid text).2.2]) ∧
      ∃ s', TCur W w2 tb s' (T.make r d key st.kind (maskV st.mode) st.uid st.gid text).1 bl (k + 3) ∧ TurnT w1 s w2 s' := by
  have c1 := c.step K
  refine (tmake_c c1.tab c1.good (c1.small.mono hk) hr d st text).mono ?_
  rintro e w2 ⟨rfl, s', h1, h2⟩
  exact ⟨rfl, s', c1.turn h1 h2 (c1.good.make ..) (c1.small.make ..), h2⟩
theorem join_t {key : ByteArray} {r : Bool} (hr : RightIs key r) (d n : Int) (w1 : World) (K : Keep w w1 (fun _ => False)) :
    Calls Tryz.prog 16 #[.pointer (some ⟨tb, 0, none⟩), .int .i64 d, .string key, .int .i64 n] w1 fun e w2 => e = .returned (.int .i64 (T.join r d key n).2) ∧ ∃ s', TCur W w2 tb s' (T.join r d key n).1 bl (k + 3) ∧ TurnT w1 s w2 s' := by
  have c1 := c.step K
  refine (tjoin_c c1.tab c1.good (c1.small.mono hk) hr d n).mono ?_
  rintro e w2 ⟨rfl, s', h1, h2⟩
  exact ⟨rfl, s', c1.turn h1 h2 (c1.good.join ..) (c1.small.join ..), h2⟩
theorem part_t (d : Int) (key : ByteArray) (w1 : World) (K : Keep w w1 (fun _ => False)) :
    Calls Tryz.prog 18 #[.pointer (some ⟨tb, 0, none⟩), .int .i64 d, .string key] w1 fun e w2 => e = .returned (.int .i64 (T.part d key).2) ∧ ∃ s', TCur W w2 tb s' (T.part d key).1 bl (k + 3) ∧ TurnT w1 s w2 s' := by
  have c1 := c.step K
  refine (tpart_c c1.tab c1.good (c1.small.mono hk) d key).mono ?_
  rintro e w2 ⟨rfl, s', h1, h2⟩
  exact ⟨rfl, s', c1.turn h1 h2 (c1.good.part ..) (c1.small.part ..), h2⟩
theorem move_t {z : ByteArray} {r : Bool} (hr : RightIs z r) (d : Int) (key : ByteArray) (e : Int) (w1 : World) (K : Keep w w1 (fun _ => False)) :
    Calls Tryz.prog 20 #[.pointer (some ⟨tb, 0, none⟩), .int .i64 d, .string key, .int .i64 e, .string z] w1 fun a w2 => a = .returned (.int .i64 (T.move r d key e z).2) ∧ ∃ s', TCur W w2 tb s' (T.move r d key e z).1 bl (k + 3) ∧ TurnT w1 s w2 s' := by
  have c1 := c.step K
  refine (tmove_c c1.tab c1.good (c1.small.mono hk) hr d key e).mono ?_
  rintro e w2 ⟨rfl, s', h1, h2⟩
  exact ⟨rfl, s', c1.turn h1 h2 (c1.good.move ..) (c1.small.move ..), h2⟩
theorem hold_t (n : Int) (w1 : World) (K : Keep w w1 (fun _ => False)) :
    Calls Tryz.prog 22 #[.pointer (some ⟨tb, 0, none⟩), .int .i64 n] w1 fun e w2 => e = .returned (.int .i64 (T.hold n).2) ∧ ∃ s', TCur W w2 tb s' (T.hold n).1 bl (k + 3) ∧ TurnT w1 s w2 s' := by
  have c1 := c.step K
  refine (thold_c c1.tab c1.good (c1.small.mono hk) n).mono ?_
  rintro e w2 ⟨rfl, s', h1, h2⟩
  exact ⟨rfl, s', c1.turn h1 h2 (c1.good.hold ..) (c1.small.hold ..), h2⟩
theorem loose_t (n : Int) (w1 : World) (K : Keep w w1 (fun _ => False)) :
    Calls Tryz.prog 24 #[.pointer (some ⟨tb, 0, none⟩), .int .i64 n] w1 fun e w2 => e = .returned (.int .i64 (T.loose n).2) ∧ ∃ s', TCur W w2 tb s' (T.loose n).1 bl (k + 3) ∧ TurnT w1 s w2 s' := by
  have c1 := c.step K
  refine (tloose_c c1.tab c1.good (c1.small.mono hk) n).mono ?_
  rintro e w2 ⟨rfl, s', h1, h2⟩
  exact ⟨rfl, s', c1.turn h1 h2 (c1.good.loose ..) (c1.small.loose ..), h2⟩
theorem stat_t (n : Int) (w1 : World) (K : Keep w w1 (fun _ => False)) :
    Calls Tryz.prog 39 #[.pointer (some ⟨tb, 0, none⟩), .int .i64 n] w1 fun e w2 => e = .returned (.tuple #[.agg (statC (T.stat n).1), .bool (T.stat n).2]) ∧ Keep w1 w2 (fun _ => False) :=
  tstat_c (c.step K).tab (c.small.mono (by omega)) n
end cur

section closed
abbrev ka : ByteArray := ⟨#[97]⟩
abbrev kb : ByteArray := ⟨#[98]⟩
def A0 : TreeV := TreeV.new 2 0
def A1 : TreeV := (A0.make true 1 ka 1 (maskV 0) 0 0 ByteArray.empty).1
def A2 : TreeV := (A1.make true 1 kb 1 (maskV 0) 0 0 ByteArray.empty).1
def A3 : TreeV := (A2.hold 2).1
def A4 : TreeV := (A3.part 1 ka).1
theorem a1 : (A0.make true 1 ka 1 (maskV 0) 0 0 ByteArray.empty).2 = (2, 0) := by decide +kernel
theorem a2 : (A1.make true 1 kb 1 (maskV 0) 0 0 ByteArray.empty).2 = (0, 43) := by decide +kernel
theorem a4 : (A3.part 1 ka).2 = 0 := by decide +kernel
theorem a5 : A4.find 1 ka = (0, false) := by decide +kernel
theorem a6 : (A4.stat 2).2 = true := by decide +kernel
end closed

/-- What a Make of a plain Stat does. -/
theorem make_p {W w : World} {tb : Nat} {s : TShape} {T : TreeV} {bl k : Int} (c : TCur W w tb s T bl k) (hk : k ≤ 900000) {key : ByteArray} (hr : RightIs key true) (d kind mode uid gid : Int) (text : ByteArray) {n e : Int} {U : TreeV} (hv : (T.make true d key kind (maskV mode) uid gid text).2 = (n, e)) (hU : (T.make true d key kind (maskV mode) uid gid text).1 = U) (w1 : World) (K : Keep w w1 (fun _ => False)) :
    Calls Tryz.prog 14 #[.pointer (some ⟨tb, 0, none⟩), .int .i64 d, .string key, .agg #[.int .i64 0, .int .i64 kind, .int .i64 mode, .int .i64 uid, .int .i64 gid, .int .i64 0, .int .i64 0], .string text] w1 fun a w2 => a = .returned (.tuple #[.int .i64 n, .int .i64 e]) ∧
      ∃ s', TCur W w2 tb s' U bl (k + 3) ∧ TurnT w1 s w2 s' := by
  have h := make_t c hk hr d ⟨0, kind, mode, uid, gid, 0, 0⟩ text w1 K
  simp only [statC] at h
  rw [hv, hU] at h
  exact h
theorem stat_p {W w : World} {tb : Nat} {s : TShape} {T : TreeV} {bl k : Int} (c : TCur W w tb s T bl k) (hk : k ≤ 900000) (n : Int) {x : TreeV.StatV} {b : Bool} (hx : T.stat n = (x, b)) (w1 : World) (K : Keep w w1 (fun _ => False)) :
    Calls Tryz.prog 39 #[.pointer (some ⟨tb, 0, none⟩), .int .i64 n] w1 fun e w2 => e = .returned (.tuple #[.agg #[.int .i64 x.node, .int .i64 x.kind, .int .i64 x.mode, .int .i64 x.uid, .int .i64 x.gid, .int .i64 x.links, .int .i64 x.size], .bool b]) ∧ Keep w1 w2 (fun _ => False) := by
  have h := stat_t c hk n w1 K
  rw [hx] at h
  simp only [statC] at h
  exact h
theorem right_a : RightIs ka true := rightIs (l := [97]) (by decide +kernel)
theorem right_b : RightIs kb true := rightIs (l := [98]) (by decide +kernel)

set_option maxHeartbeats 1600000 in
theorem tknown_c (w : World) : Calls Tryz.prog 10 #[] w fun r w' => r = .returned (.bool true) ∧ Keep w w' (fun _ => False) := by
  have h0 := newt_c (Keep.refl w _) 2 0 ⟨by decide, by decide⟩ ⟨by decide, by decide⟩
  go_enter Tryz.func10, Tryz.ntmps10
  go_wp2_with (first
    | (go_at_call 4
       refine h0.mono ?_
       rintro e w1 ⟨tb, s1, rfl, c1, -⟩
       have h1 := make_p c1 (by decide) right_a 1 1 0 0 0 ByteArray.empty a1 (U := A1) rfl
       clear h0)
    | (go_at_call 14
       refine (h1 _ (Keep.refl _ _)).mono ?_
       rintro e w2 ⟨rfl, s2, c2, -⟩
       have h2 := make_p c2 (by decide) right_b 1 1 0 0 0 ByteArray.empty a2 (U := A2) rfl
       clear h1 c1)
    | (go_at_call 14
       refine (h2 _ (Keep.refl _ _)).mono ?_
       rintro e w3 ⟨rfl, s3, c3, -⟩
       have h3 := hold_t c3 (by decide) 2
       clear h2 c2)
    | (go_at_call 22
       refine (h3 _ (Keep.refl _ _)).mono ?_
       rintro e w4 ⟨rfl, s4, c4, -⟩
       have h4 := part_t (T := A3) c4 (by decide) 1 ka
       rw [a4] at h4
       clear h3 c3)
    | (go_at_call 18
       refine (h4 _ (Keep.refl _ _)).mono ?_
       rintro e w5 ⟨rfl, s5, c5, -⟩
       have h5 := tfind_c (T := A4) c5.tab 1 ka
       rw [a5] at h5
       obtain ⟨x6, b6, hx6⟩ : ∃ x b, A4.stat 2 = (x, b) := ⟨_, _, rfl⟩
       have e6 := a6
       rw [hx6] at e6
       simp only at e6
       subst e6
       have h6 := stat_p (T := A4) c5 (by decide) 2 hx6
       have C5 := Lib.hid c5
       clear h4 c4 c5 hx6)
    | (go_at_call 48
       refine h5.mono ?_
       rintro e w6 ⟨rfl, rfl⟩
       clear h5)
    | (go_at_call 39
       refine (h6 _ (Keep.refl _ _)).mono ?_
       rintro e w7 ⟨rfl, k7⟩
       have K7 := Lib.hid k7
       clear h6 k7))
  go_ret
  refine ⟨rfl, ?_⟩
  repeat (first | exact (C5.out.step K7.out).keep | refine Keep.setNew ?_ _ _ (by have := C5.out.keep.size; have := K7.out.size; simp; omega) | refine Keep.allocNew ?_ _)

end Go.Proofs.YtnjfcedkfobbcaaGreat
