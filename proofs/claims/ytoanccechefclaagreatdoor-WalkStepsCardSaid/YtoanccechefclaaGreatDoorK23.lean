/-
  Parts of the walk's proof: Play0, Play1. (joined by pack.py)
-/
import Derived.Deep.RegionHeld3
import Derived.Laws.Cover1
import Derived.Deep.DeepCutAuto
import Derived.Deep.CutBlock
import Derived.Test.YtoanccechefclaaGreatDoorK17
import Derived.Test.YtoanccechefclaaGreatDoorK18
import Derived.Test.YtoanccechefclaaGreatDoorK21
import Derived.Test.YtoanccechefclaaGreatDoorK22
set_option linter.unusedSectionVars false
set_option linter.unusedSimpArgs false
set_option linter.unusedVariables false
namespace Go.Proofs.YtoanccechefclaaGreatDoor
open Go Go.RowKit Go.Shelf
set_option maxRecDepth 100000
structure Zone (Zw : World) (Z : Nat → Prop) (w : World) (s : TShape) (r : RShape) (S R : Nat → Prop) : Prop where
  keep : Keep Zw w (fun b => ¬ Z b)
  lt : ∀ b, Z b → b < Zw.heap.size
  out : ∀ b, Z b → ¬ s.has b ∧ ¬ r.has b ∧ ¬ S b ∧ ¬ R b
section
variable {Zw w w' : World} {Z : Nat → Prop} {s s' : TShape} {r r' : RShape} {S R S' R' : Nat → Prop}
theorem Zone.aside (h : Zone Zw Z w s r S R) (K : Keep w w' (fun _ => False)) : Zone Zw Z w' s r S R := ⟨h.keep.trans K (fun _ q => q.elim), h.lt, h.out⟩
theorem Zone.turn (h : Zone Zw Z w s r S R) (t : TurnT w s w' s') : Zone Zw Z w' s' r S R :=
  ⟨h.keep.trans t.keep (fun b q => .inl fun z => (h.out b z).1 q), h.lt, fun b z => ⟨fun q => (t.new b q).elim (h.out b z).1 (fun y => by have := h.lt b z; have := h.keep.size; omega), (h.out b z).2⟩⟩
theorem Zone.refs (h : Zone Zw Z w s r S R) (t : TurnR w r w' r') : Zone Zw Z w' s r' S R :=
  ⟨h.keep.trans t.keep (fun b q => .inl fun z => (h.out b z).2.1 q), h.lt, fun b z => ⟨(h.out b z).1, fun q => (t.new b q).elim (h.out b z).2.1 (fun y => by have := h.lt b z; have := h.keep.size; omega), (h.out b z).2.2⟩⟩
theorem Zone.mturn (h : Zone Zw Z w s r S R) (t : TurnM w S w' S') : Zone Zw Z w' s r S' R :=
  ⟨h.keep.trans t.keep (fun b q => .inl fun z => (h.out b z).2.2.1 q), h.lt, fun b z => ⟨(h.out b z).1, (h.out b z).2.1, fun q => (t.new b q).elim (h.out b z).2.2.1 (fun y => by have := h.lt b z; have := h.keep.size; omega), (h.out b z).2.2.2⟩⟩
theorem Zone.qturn (h : Zone Zw Z w s r S R) (t : TurnM w R w' R') : Zone Zw Z w' s r S R' :=
  ⟨h.keep.trans t.keep (fun b q => .inl fun z => (h.out b z).2.2.2 q), h.lt, fun b z => ⟨(h.out b z).1, (h.out b z).2.1, (h.out b z).2.2.1, fun q => (t.new b q).elim (h.out b z).2.2.2 (fun y => by have := h.lt b z; have := h.keep.size; omega)⟩⟩
end
structure PB (W w : World) (tb : Nat) (s : TShape) (T : TreeV) (rb : Nat) (r : RShape) (U : TreeV) (mb : Nat) (S : Nat → Prop) (V : MountV) (qb : Nat) (R : Nat → Prop) (X : MountV) (bl k : Int) (Zw : World) (Z : Nat → Prop) : Prop where
  t : TB W w tb s T rb r U bl k
  m : TableAt w mb S V
  q : RTableAt w qb R X
  sm : ∀ b, s.has b → ¬ S b
  sq : ∀ b, s.has b → ¬ R b
  rm : ∀ b, r.has b → ¬ S b
  rq : ∀ b, r.has b → ¬ R b
  mq : ∀ b, S b → ¬ R b
  m0 : ∀ b, S b → W.heap.size ≤ b
  q0 : ∀ b, R b → W.heap.size ≤ b
  z : Zone Zw Z w s r S R
section
variable {W w w' : World} {tb rb mb qb : Nat} {s s' : TShape} {r r' : RShape} {T T' U : TreeV} {S R S' R' : Nat → Prop} {V V' X : MountV} {bl k k' : Int}
theorem PB.aside {Zw : World} {Z : Nat → Prop} (h : PB W w tb s T rb r U mb S V qb R X bl k Zw Z) (K : Keep w w' (fun _ => False)) : PB W w' tb s T rb r U mb S V qb R X bl k Zw Z :=
  ⟨h.t.aside K, h.m.aside K, h.q.aside K, h.sm, h.sq, h.rm, h.rq, h.mq, h.m0, h.q0, h.z.aside K⟩
theorem PB.more {Zw : World} {Z : Nat → Prop} (h : PB W w tb s T rb r U mb S V qb R X bl k Zw Z) (hk : k ≤ k') : PB W w tb s T rb r U mb S V qb R X bl k' Zw Z :=
  ⟨h.t.more hk, h.m, h.q, h.sm, h.sq, h.rm, h.rq, h.mq, h.m0, h.q0, h.z⟩
theorem PB.turn {Zw : World} {Z : Nat → Prop} (h : PB W w tb s T rb r U mb S V qb R X bl k Zw Z) (c : TCur W w' tb s' T' bl k') (t : TurnT w s w' s') (hk : k ≤ k') : PB W w' tb s' T' rb r U mb S V qb R X bl k' Zw Z :=
  ⟨h.t.turn c t hk, h.m.keep t.keep (fun b q z => h.sm b z q), h.q.keep t.keep (fun b q z => h.sq b z q),
    fun b q z => (t.new b q).elim (fun y => h.sm b y z) (fun y => by have := h.m.lt b z; omega), fun b q z => (t.new b q).elim (fun y => h.sq b y z) (fun y => by have := h.q.lt b z; omega), h.rm, h.rq, h.mq, h.m0, h.q0, h.z.turn t⟩
theorem PB.refs {Zw : World} {Z : Nat → Prop} (h : PB W w tb s T rb r U mb S V qb R X bl k Zw Z) (hr : RTreeIn w' rb r' bl T) (hu : RUp r'.up T) (t : TurnR w r w' r') : PB W w' tb s T rb r' T mb S V qb R X bl k Zw Z :=
  ⟨h.t.refs hr hu t, h.m.keep t.keep (fun b q z => h.rm b z q), h.q.keep t.keep (fun b q z => h.rq b z q), h.sm, h.sq,
    fun b q z => (t.new b q).elim (fun y => h.rm b y z) (fun y => by have := h.m.lt b z; omega), fun b q z => (t.new b q).elim (fun y => h.rq b y z) (fun y => by have := h.q.lt b z; omega), h.mq, h.m0, h.q0, h.z.refs t⟩
theorem TB.beside {D : Nat → Prop} (h : TB W w tb s T rb r U bl k) (K : Keep w w' D) (h1 : ∀ b, s.has b → ¬ D b) (h2 : ∀ b, r.has b → ¬ D b) (h3 : ∀ b, D b → W.heap.size ≤ b) : TB W w' tb s T rb r U bl k :=
  ⟨⟨h.cur.tab.keep K h1, h.cur.keep.trans K (fun b q => .inr (h3 b q)), h.cur.new, h.cur.good, h.cur.small⟩, h.ref.keep K h2, h.up, h.rgood, h.rsmall, h.sr, h.r0⟩
theorem PB.mturn {Zw : World} {Z : Nat → Prop} (h : PB W w tb s T rb r U mb S V qb R X bl k Zw Z) (ht : TableAt w' mb S' V') (t : TurnM w S w' S') : PB W w' tb s T rb r U mb S' V' qb R X bl k Zw Z := by
  have hz := h.t.cur.keep.size
  refine ⟨h.t.beside t.keep (fun b q z => h.sm b q z) (fun b q z => h.rm b q z) h.m0, ht, h.q.keep t.keep (fun b q z => h.mq b z q), fun b q z => (t.new b z).elim (h.sm b q) (fun y => ?_), h.sq, fun b q z => (t.new b z).elim (h.rm b q) (fun y => ?_), h.rq,
    fun b q z => (t.new b q).elim (fun y => h.mq b y z) (fun y => ?_), fun b q => (t.new b q).elim (h.m0 b) (fun y => by omega), h.q0, h.z.mturn t⟩
  · have := thas_lt h.t.cur.tab q; omega
  · have := rhas_lt h.t.ref q; omega
  · have := h.q.lt b z; omega
theorem PB.qturn {Zw : World} {Z : Nat → Prop} (h : PB W w tb s T rb r U mb S V qb R X bl k Zw Z) (ht : RTableAt w' qb R' V') (t : TurnM w R w' R') : PB W w' tb s T rb r U mb S V qb R' V' bl k Zw Z := by
  have hz := h.t.cur.keep.size
  refine ⟨h.t.beside t.keep (fun b q z => h.sq b q z) (fun b q z => h.rq b q z) h.q0, h.m.keep t.keep (fun b q z => h.mq b q z), ht, h.sm, fun b q z => (t.new b z).elim (h.sq b q) (fun y => ?_), h.rm, fun b q z => (t.new b z).elim (h.rq b q) (fun y => ?_),
    fun b q z => (t.new b z).elim (h.mq b q) (fun y => ?_), h.m0, fun b q => (t.new b q).elim (h.q0 b) (fun y => by omega), h.z.qturn t⟩
  · have := thas_lt h.t.cur.tab q; omega
  · have := rhas_lt h.t.ref q; omega
  · have := h.m.lt b q; omega
end
structure ActV where
  kind : Int
  dir : Int
  to_ : Int
  n : Int
  s : ByteArray
  as_ : ByteArray
  st : TreeV.StatV
  am : Int
  an : Int
def actC (x : ActV) : Array Value :=
  #[.int .i64 x.kind, .int .i64 x.dir, .int .i64 x.to_, .int .i64 x.n, .string x.s, .string x.as_, .int .i64 x.st.node, .int .i64 x.st.kind, .int .i64 x.st.mode, .int .i64 x.st.uid, .int .i64 x.st.gid, .int .i64 x.st.links, .int .i64 x.st.size, .int .i64 x.am, .int .i64 x.an]
def doV (T : TreeV) (V : MountV) (x : ActV) : TreeV × MountV :=
  if x.kind = 1 then ((T.make true x.dir x.s x.st.kind (maskV x.st.mode) x.st.uid x.st.gid x.as_).1, V)
  else if x.kind = 2 then ((T.join true x.dir x.s x.to_).1, V)
  else if x.kind = 3 then ((T.part x.dir x.s).1, V)
  else if x.kind = 4 then ((T.move true x.dir x.s x.to_ x.as_).1, V)
  else if x.kind = 5 then ((T.setMode x.dir (maskV x.n)).1, V)
  else if x.kind = 6 then
    if (T.stat x.to_).2 = false ∨ (T.stat x.an).2 = false then (T, V)
    else if (V.bind x.am x.an x.to_).2.2 = 0 then (((T.hold x.to_).1.hold x.an).1, (V.bind x.am x.an x.to_).1)
    else (T, (V.bind x.am x.an x.to_).1)
  else if x.kind = 7 then (T, (V.unbind x.n).1)
  else ((T.setOwner x.dir x.n x.to_).1, V)
theorem small_u (n most : Int) (h1 : 1 ≤ most) (h2 : most ≤ 1000) (h3 : -9223372036854775808 ≤ n) (h4 : n ≤ 9223372036854775807) : ∃ m : Int, 0 ≤ m ∧ m < most ∧ ∀ w : World,
    Calls Tryz.prog 53 #[.int .i64 n, .int .i64 most] w fun r w' => r = .returned (.int .i64 m) ∧ w = w' := by
  have hd : (0 : Int) < most := by omega
  by_cases hn : 0 ≤ n
  · have hm := Int.emod_nonneg n (b := most) (by omega)
    have hm2 := Int.emod_lt_of_pos n hd
    refine ⟨n % most, hm, hm2, fun w => ?_⟩
    have g0 : ¬ n < 0 := by omega
    go_enter Tryz.func53, Tryz.ntmps53
    go_wp2
    go_ret
    refine ⟨?_, rfl⟩
    first | rfl | (congr 2; omega)
  · have hm := Int.emod_nonneg (-(n + 1)) (b := most) (by omega)
    have hm2 := Int.emod_lt_of_pos (-(n + 1)) hd
    refine ⟨(-(n + 1)) % most, hm, hm2, fun w => ?_⟩
    have g0 : n < 0 := by omega
    have g1 : (0 : Int) ≤ -(n + 1) := by omega
    go_enter Tryz.func53, Tryz.ntmps53
    go_wp2
    go_ret
    refine ⟨?_, rfl⟩
    have e : -((n + 1).tmod most) = -(n + 1) % most := by rw [← Int.neg_tmod]; exact Int.tmod_eq_emod_of_nonneg g1
    show Ending.returned (.int .i64 (-((n + 1).tmod most))) = _
    rw [e]
end Go.Proofs.YtoanccechefclaaGreatDoor
namespace Go.Proofs.YtoanccechefclaaGreatDoor
open Go Go.RowKit Go.Shelf
set_option maxRecDepth 100000
abbrev kl : ByteArray := ⟨#[108]⟩
abbrev kC : ByteArray := ⟨#[99]⟩
def NameOk (s : ByteArray) : Prop := s = ka ∨ s = kb ∨ s = kC ∨ s = kl
theorem right_n {s : ByteArray} (h : NameOk s) : RightIs s true := by
  rcases h with rfl | rfl | rfl | rfl
  · exact rightIs (l := [97]) (by decide +kernel)
  · exact rightIs (l := [98]) (by decide +kernel)
  · exact rightIs (l := [99]) (by decide +kernel)
  · exact rightIs (l := [108]) (by decide +kernel)
theorem rright_n {s : ByteArray} (h : NameOk s) : RRightIs s true := by
  rcases h with rfl | rfl | rfl | rfl
  · exact rrightIs (l := [97]) (by decide +kernel) (by decide)
  · exact rrightIs (l := [98]) (by decide +kernel) (by decide)
  · exact rrightIs (l := [99]) (by decide +kernel) (by decide)
  · exact rrightIs (l := [108]) (by decide +kernel) (by decide)
def bothC (tb mb rb qb : Nat) : Array Value := #[.pointer (some ⟨tb, 0, none⟩), .pointer (some ⟨mb, 0, none⟩), .pointer (some ⟨rb, 0, none⟩), .pointer (some ⟨qb, 0, none⟩)]
structure BX (w : World) (tb mb rb qb : Nat) (s : TShape) (r : RShape) (S R : Nat → Prop) (xb yb : Nat) (x : ActV) : Prop where
  b1 : w.heap[xb]? = some (.cells (bothC tb mb rb qb) 31 (0, 0))
  b2 : w.heap[yb]? = some (.cells (actC x) 40 (0, 0))
  n1 : ¬ s.has xb ∧ ¬ r.has xb ∧ ¬ S xb ∧ ¬ R xb
  n2 : ¬ s.has yb ∧ ¬ r.has yb ∧ ¬ S yb ∧ ¬ R yb
structure BCells (w : World) (xb yb tb mb rb qb : Nat) (x : ActV) : Prop where
  p0 : w.cell? ⟨xb, 0, none⟩ = some (.pointer (some ⟨tb, 0, none⟩))
  p1 : w.cell? ⟨xb, 1, none⟩ = some (.pointer (some ⟨mb, 0, none⟩))
  p2 : w.cell? ⟨xb, 2, none⟩ = some (.pointer (some ⟨rb, 0, none⟩))
  p3 : w.cell? ⟨xb, 3, none⟩ = some (.pointer (some ⟨qb, 0, none⟩))
  c0 : w.cell? ⟨yb, 0, none⟩ = some (.int .i64 x.kind)
  c1 : w.cell? ⟨yb, 1, none⟩ = some (.int .i64 x.dir)
  c2 : w.cell? ⟨yb, 2, none⟩ = some (.int .i64 x.to_)
  c3 : w.cell? ⟨yb, 3, none⟩ = some (.int .i64 x.n)
  c4 : w.cell? ⟨yb, 4, none⟩ = some (.string x.s)
  c5 : w.cell? ⟨yb, 5, none⟩ = some (.string x.as_)
  c6 : w.cell? ⟨yb, 6, none⟩ = some (.int .i64 x.st.node)
  c7 : w.cell? ⟨yb, 7, none⟩ = some (.int .i64 x.st.kind)
  c8 : w.cell? ⟨yb, 8, none⟩ = some (.int .i64 x.st.mode)
  c9 : w.cell? ⟨yb, 9, none⟩ = some (.int .i64 x.st.uid)
  c10 : w.cell? ⟨yb, 10, none⟩ = some (.int .i64 x.st.gid)
  c11 : w.cell? ⟨yb, 11, none⟩ = some (.int .i64 x.st.links)
  c12 : w.cell? ⟨yb, 12, none⟩ = some (.int .i64 x.st.size)
  c13 : w.cell? ⟨yb, 13, none⟩ = some (.int .i64 x.am)
  c14 : w.cell? ⟨yb, 14, none⟩ = some (.int .i64 x.an)
section
variable {W w w' : World} {tb rb mb qb xb yb : Nat} {s s' : TShape} {r r' : RShape} {T T' U : TreeV} {S R S' R' : Nat → Prop} {V V' X : MountV} {bl k k' : Int} {x : ActV}
theorem BX.cells (h : BX w tb mb rb qb s r S R xb yb x) : BCells w xb yb tb mb rb qb x := by
  have h1 := h.b1
  have h2 := h.b2
  constructor <;> first | (rw [cell_blk h1]; rfl) | (rw [cell_blk h2]; rfl)
theorem BX.aside (h : BX w tb mb rb qb s r S R xb yb x) (K : Keep w w' (fun _ => False)) : BX w' tb mb rb qb s r S R xb yb x := ⟨K.get h.b1 (fun q => q), K.get h.b2 (fun q => q), h.n1, h.n2⟩
theorem BX.turn (h : BX w tb mb rb qb s r S R xb yb x) (t : TurnT w s w' s') : BX w' tb mb rb qb s' r S R xb yb x :=
  ⟨t.keep.get h.b1 h.n1.1, t.keep.get h.b2 h.n2.1, ⟨fun q => (t.new _ q).elim h.n1.1 (fun y => by have := lt_of_blk h.b1; omega), h.n1.2⟩, ⟨fun q => (t.new _ q).elim h.n2.1 (fun y => by have := lt_of_blk h.b2; omega), h.n2.2⟩⟩
theorem BX.refs (h : BX w tb mb rb qb s r S R xb yb x) (t : TurnR w r w' r') : BX w' tb mb rb qb s r' S R xb yb x :=
  ⟨t.keep.get h.b1 h.n1.2.1, t.keep.get h.b2 h.n2.2.1, ⟨h.n1.1, fun q => (t.new _ q).elim h.n1.2.1 (fun y => by have := lt_of_blk h.b1; omega), h.n1.2.2⟩, ⟨h.n2.1, fun q => (t.new _ q).elim h.n2.2.1 (fun y => by have := lt_of_blk h.b2; omega), h.n2.2.2⟩⟩
theorem BX.mturn (h : BX w tb mb rb qb s r S R xb yb x) (t : TurnM w S w' S') : BX w' tb mb rb qb s r S' R xb yb x :=
  ⟨t.keep.get h.b1 h.n1.2.2.1, t.keep.get h.b2 h.n2.2.2.1, ⟨h.n1.1, h.n1.2.1, fun q => (t.new _ q).elim h.n1.2.2.1 (fun y => by have := lt_of_blk h.b1; omega), h.n1.2.2.2⟩, ⟨h.n2.1, h.n2.2.1, fun q => (t.new _ q).elim h.n2.2.2.1 (fun y => by have := lt_of_blk h.b2; omega), h.n2.2.2.2⟩⟩
theorem BX.qturn (h : BX w tb mb rb qb s r S R xb yb x) (t : TurnM w R w' R') : BX w' tb mb rb qb s r S R' xb yb x :=
  ⟨t.keep.get h.b1 h.n1.2.2.2, t.keep.get h.b2 h.n2.2.2.2, ⟨h.n1.1, h.n1.2.1, h.n1.2.2.1, fun q => (t.new _ q).elim h.n1.2.2.2 (fun y => by have := lt_of_blk h.b1; omega)⟩, ⟨h.n2.1, h.n2.2.1, h.n2.2.2.1, fun q => (t.new _ q).elim h.n2.2.2.2 (fun y => by have := lt_of_blk h.b2; omega)⟩⟩
def PP (W w : World) (tb : Nat) (s : TShape) (T : TreeV) (rb : Nat) (r : RShape) (U : TreeV) (mb : Nat) (S : Nat → Prop) (V : MountV) (qb : Nat) (R : Nat → Prop) (X : MountV) (bl k : Int) (Zw : World) (Z : Nat → Prop) (xb yb : Nat) (x : ActV) : Prop :=
  PB W w tb s T rb r U mb S V qb R X bl k Zw Z ∧ BX w tb mb rb qb s r S R xb yb x
theorem PP.aside {Zw : World} {Z : Nat → Prop} (h : PP W w tb s T rb r U mb S V qb R X bl k Zw Z xb yb x) (K : Keep w w' (fun _ => False)) : PP W w' tb s T rb r U mb S V qb R X bl k Zw Z xb yb x := ⟨h.1.aside K, h.2.aside K⟩
theorem PP.prog {Zw : World} {Z : Nat → Prop} (h : PP W w tb s T rb r U mb S V qb R X bl k Zw Z xb yb x) {P : Program} {f : Nat} {a : Array Value} {E : Ending} (hc : ∀ w1, Keep w w1 (fun _ => False) → Calls P f a w1 fun e w2 => e = E ∧ ∃ s', TCur W w2 tb s' T' bl (k + 3) ∧ TurnT w1 s w2 s') :
    ∀ w1, Keep w w1 (fun _ => False) → Calls P f a w1 fun e w2 => e = E ∧ ∃ s', PP W w2 tb s' T' rb r U mb S V qb R X bl (k + 3) Zw Z xb yb x := fun w1 K => by
  refine (hc w1 K).mono ?_
  rintro e w2 ⟨h1, s', c, t⟩
  exact ⟨h1, s', (h.1.aside K).turn c t (by omega), (h.2.aside K).turn t⟩
theorem PP.doc {Zw : World} {Z : Nat → Prop} (h : PP W w tb s T rb r U mb S V qb R X bl k Zw Z xb yb x) {P : Program} {f : Nat} {a : Array Value} {E : Ending} (hc : ∀ w1, Keep w w1 (fun _ => False) → Calls P f a w1 fun e w2 => e = E ∧ RTo w1 r rb bl T w2) :
    ∀ w1, Keep w w1 (fun _ => False) → Calls P f a w1 fun e w2 => e = E ∧ ∃ r', PP W w2 tb s T rb r' T mb S V qb R X bl k Zw Z xb yb x := fun w1 K => by
  refine (hc w1 K).mono ?_
  rintro e w2 ⟨h1, r', c, u, t⟩
  exact ⟨h1, r', (h.1.aside K).refs c u t, (h.2.aside K).refs t⟩
theorem PP.mprog {Zw : World} {Z : Nat → Prop} (h : PP W w tb s T rb r U mb S V qb R X bl k Zw Z xb yb x) {P : Program} {f : Nat} {a : Array Value} {E : Ending} (hc : ∀ w1, Keep w w1 (fun _ => False) → Calls P f a w1 fun e w2 => e = E ∧ ∃ S', TableAt w2 mb S' V' ∧ TurnM w1 S w2 S') :
    ∀ w1, Keep w w1 (fun _ => False) → Calls P f a w1 fun e w2 => e = E ∧ ∃ S', PP W w2 tb s T rb r U mb S' V' qb R X bl k Zw Z xb yb x := fun w1 K => by
  refine (hc w1 K).mono ?_
  rintro e w2 ⟨h1, S', c, t⟩
  exact ⟨h1, S', (h.1.aside K).mturn c t, (h.2.aside K).mturn t⟩
theorem PP.mdoc {Zw : World} {Z : Nat → Prop} (h : PP W w tb s T rb r U mb S V qb R X bl k Zw Z xb yb x) {P : Program} {f : Nat} {a : Array Value} {E : Ending} (hc : ∀ w1, Keep w w1 (fun _ => False) → Calls P f a w1 fun e w2 => e = E ∧ ∃ R', RTableAt w2 qb R' V' ∧ TurnM w1 R w2 R') :
    ∀ w1, Keep w w1 (fun _ => False) → Calls P f a w1 fun e w2 => e = E ∧ ∃ R', PP W w2 tb s T rb r U mb S V qb R' V' bl k Zw Z xb yb x := fun w1 K => by
  refine (hc w1 K).mono ?_
  rintro e w2 ⟨h1, R', c, t⟩
  exact ⟨h1, R', (h.1.aside K).qturn c t, (h.2.aside K).qturn t⟩
end
theorem do_start {Zw : World} {Z : Nat → Prop} {W w : World} {tb rb mb qb : Nat} {s : TShape} {r : RShape} {T U : TreeV} {S R : Nat → Prop} {V X : MountV} {bl k : Int} (h : PB W w tb s T rb r U mb S V qb R X bl k Zw Z) (x : ActV) :
    ∃ wx, PP W wx tb s T rb r U mb S V qb R X bl k Zw Z w.heap.size (w.heap.size + 1) x ∧ wx = (w.alloc (.cells (bothC tb mb rb qb) 31)).alloc (.cells (actC x) 40) := by
  obtain ⟨k1, b1, b2, z1⟩ := boxes2 w (.cells (bothC tb mb rb qb) 31) (.cells (actC x) 40)
  have n1 : ∀ b, w.heap.size ≤ b → ¬ s.has b ∧ ¬ r.has b ∧ ¬ S b ∧ ¬ R b := fun b hb =>
    ⟨fun q => by have := thas_lt h.t.cur.tab q; omega, fun q => by have := rhas_lt h.t.ref q; omega, fun q => by have := h.m.lt _ q; omega, fun q => by have := h.q.lt _ q; omega⟩
  exact ⟨_, ⟨h.aside k1, b1, b2, n1 _ (Nat.le_refl _), n1 _ (Nat.le_succ _)⟩, rfl⟩
set_option maxHeartbeats 8000000 in
theorem do1_c {Zw : World} {Z : Nat → Prop} {W w : World} {tb rb mb qb : Nat} {s : TShape} {r : RShape} {T : TreeV} {S R : Nat → Prop} {V : MountV} {bl k : Int} (h : PB W w tb s T rb r T mb S V qb R V bl k Zw Z) (hk : k ≤ 90000) (hV : 0 ≤ V.turns ∧ V.turns ≤ k ∧ V.made ≤ k) (x : ActV) (hx : x.kind = 1) (hs : NameOk x.s) :
    Calls Tryz.prog 12 #[.agg (bothC tb mb rb qb), .agg (actC x)] w fun e w' => e = .returned (.bool true) ∧ ∃ s' r' S' R', PB W w' tb s' (doV T V x).1 rb r' (doV T V x).1 mb S' (doV T V x).2 qb R' (doV T V x).2 bl (k + 6) Zw Z := by
  have hk9 : k ≤ 900000 := by omega
  obtain ⟨wx, hX0, hwx⟩ := do_start h x
  have X := Lib.hid hX0
  obtain ⟨yp0, yp1, yp2, yp3, yc0, yc1, yc2, yc3, yc4, yc5, yc6, yc7, yc8, yc9, yc10, yc11, yc12, yc13, yc14⟩ := hX0.2.cells
  rw [hx] at yc0
  have HX := Lib.hid hx
  clear hX0 h hx
  unfold bothC actC at hwx ⊢
  go_enter Tryz.func12, Tryz.ntmps12
  go_upto_region 1 with (fail)
  rw [← hwx]
  clear hwx
  have hu := X.out.prog (fun w1 K => make_t X.out.1.t.cur hk9 (right_n hs) x.dir x.st x.as_ w1 K)
  simp only [statC] at hu
  obtain ⟨v1, hv1⟩ : ∃ v1, (T.make true x.dir x.s x.st.kind (maskV x.st.mode) x.st.uid x.st.gid x.as_).2.1 = v1 := ⟨_, rfl⟩
  obtain ⟨v2, hv2⟩ : ∃ v2, (T.make true x.dir x.s x.st.kind (maskV x.st.mode) x.st.uid x.st.gid x.as_).2.2 = v2 := ⟨_, rfl⟩
  rw [hv1, hv2] at hu
  have h0' : (v1 == v1) = true := by simp
  have h1' : (v2 == v2) = true := by simp
  have HV := Lib.hid (And.intro hv1 hv2)
  clear hv1 hv2
  go_wp2_with (first
    | (go_at_call 33
       refine (hu _ (Keep.refl _ _)).mono ?_
       rintro e w4 ⟨rfl, s4, hX4⟩
       have hv := hX4.doc (fun w1 K => rtmake_c (hX4.1.t.aside K).ref hX4.1.t.up hX4.1.t.rgood (hX4.1.t.rsmall.mono (by omega)) (rright_n hs) x.dir x.st x.as_)
       simp only [statC] at hv
       rw [HV.out.1, HV.out.2] at hv
       have N4 := Lib.hid hX4
       obtain ⟨ip0, ip1, ip2, ip3, ic0, ic1, ic2, ic3, ic4, ic5, ic6, ic7, ic8, ic9, ic10, ic11, ic12, ic13, ic14⟩ := hX4.2.cells
       clear hu hX4)
    | (go_at_call 40
       refine (hv _ (Keep.refl _ _)).mono ?_
       rintro e w5 ⟨rfl, r5, hX5⟩
       have N5 := Lib.hid hX5
       obtain ⟨jp0, jp1, jp2, jp3, jc0, jc1, jc2, jc3, jc4, jc5, jc6, jc7, jc8, jc9, jc10, jc11, jc12, jc13, jc14⟩ := hX5.2.cells
       clear hv hX5))
  go_ret
  have hd : doV T V x = ((T.make true x.dir x.s x.st.kind (maskV x.st.mode) x.st.uid x.st.gid x.as_).1, V) := by unfold doV; simp [HX.out]
  rw [hd]
  exact ⟨rfl, s4, r5, _, _, N5.out.1.more (by omega)⟩
set_option maxHeartbeats 8000000 in
theorem do2_c {Zw : World} {Z : Nat → Prop} {W w : World} {tb rb mb qb : Nat} {s : TShape} {r : RShape} {T : TreeV} {S R : Nat → Prop} {V : MountV} {bl k : Int} (h : PB W w tb s T rb r T mb S V qb R V bl k Zw Z) (hk : k ≤ 90000) (hV : 0 ≤ V.turns ∧ V.turns ≤ k ∧ V.made ≤ k) (x : ActV) (hx : x.kind = 2) (hs : NameOk x.s) :
    Calls Tryz.prog 12 #[.agg (bothC tb mb rb qb), .agg (actC x)] w fun e w' => e = .returned (.bool true) ∧ ∃ s' r' S' R', PB W w' tb s' (doV T V x).1 rb r' (doV T V x).1 mb S' (doV T V x).2 qb R' (doV T V x).2 bl (k + 6) Zw Z := by
  have hk9 : k ≤ 900000 := by omega
  obtain ⟨wx, hX0, hwx⟩ := do_start h x
  have X := Lib.hid hX0
  obtain ⟨yp0, yp1, yp2, yp3, yc0, yc1, yc2, yc3, yc4, yc5, yc6, yc7, yc8, yc9, yc10, yc11, yc12, yc13, yc14⟩ := hX0.2.cells
  rw [hx] at yc0
  have HX := Lib.hid hx
  clear hX0 h hx
  unfold bothC actC at hwx ⊢
  go_enter Tryz.func12, Tryz.ntmps12
  go_upto_region 1 with (fail)
  rw [← hwx]
  clear hwx
  have hu := X.out.prog (fun w1 K => join_t X.out.1.t.cur hk9 (right_n hs) x.dir x.to_ w1 K)
  obtain ⟨v, hv0⟩ : ∃ v, (T.join true x.dir x.s x.to_).2 = v := ⟨_, rfl⟩
  rw [hv0] at hu
  have h0' : (v == v) = true := by simp
  have HV := Lib.hid hv0
  clear hv0
  go_wp2
  go_region_held3 (fun w' => w'.cell? ⟨w.heap.size, 0, none⟩ = some (.pointer (some ⟨tb, 0, none⟩)) ∧ w'.cell? ⟨w.heap.size, 2, none⟩ = some (.pointer (some ⟨rb, 0, none⟩)) ∧ w'.cell? ⟨w.heap.size + 1, 1, none⟩ = some (.int .i64 x.dir) ∧ w'.cell? ⟨w.heap.size + 1, 4, none⟩ = some (.string x.s) ∧ w'.cell? ⟨w.heap.size + 1, 2, none⟩ = some (.int .i64 x.to_)) (go_keep) (first
    | (go_at_call 41
       refine (hu _ ?_).mono ?_
       · (first | exact Keep.refl _ _ | exact Keep.drew _ _ | exact drewN_keep _ _ _)
       rintro e w4 ⟨rfl, s4, hX4⟩
       have hv := hX4.doc (fun w1 K => rjoin_c (hX4.1.t.aside K).ref hX4.1.t.up hX4.1.t.rgood (hX4.1.t.rsmall.mono (by omega)) (rright_n hs) x.dir x.to_)
       rw [HV.out] at hv
       have N4 := Lib.hid hX4
       obtain ⟨ip0, ip1, ip2, ip3, ic0, ic1, ic2, ic3, ic4, ic5, ic6, ic7, ic8, ic9, ic10, ic11, ic12, ic13, ic14⟩ := hX4.2.cells
       clear hu hX4)
    | (go_at_call 42
       refine (hv _ ?_).mono ?_
       · (first | exact Keep.refl _ _ | exact Keep.drew _ _ | exact drewN_keep _ _ _)
       rintro e w5 ⟨rfl, r5, hX5⟩
       have N5 := Lib.hid hX5
       obtain ⟨jp0, jp1, jp2, jp3, jc0, jc1, jc2, jc3, jc4, jc5, jc6, jc7, jc8, jc9, jc10, jc11, jc12, jc13, jc14⟩ := hX5.2.cells
       clear hv hX5))
  all_goals go_wp2
  go_ret
  have hd : doV T V x = ((T.join true x.dir x.s x.to_).1, V) := by unfold doV; simp [HX.out]
  rw [hd]
  exact ⟨rfl, s4, r5, _, _, N5.out.1.more (by omega)⟩
set_option maxHeartbeats 8000000 in
theorem do3_c {Zw : World} {Z : Nat → Prop} {W w : World} {tb rb mb qb : Nat} {s : TShape} {r : RShape} {T : TreeV} {S R : Nat → Prop} {V : MountV} {bl k : Int} (h : PB W w tb s T rb r T mb S V qb R V bl k Zw Z) (hk : k ≤ 90000) (hV : 0 ≤ V.turns ∧ V.turns ≤ k ∧ V.made ≤ k) (x : ActV) (hx : x.kind = 3) :
    Calls Tryz.prog 12 #[.agg (bothC tb mb rb qb), .agg (actC x)] w fun e w' => e = .returned (.bool true) ∧ ∃ s' r' S' R', PB W w' tb s' (doV T V x).1 rb r' (doV T V x).1 mb S' (doV T V x).2 qb R' (doV T V x).2 bl (k + 6) Zw Z := by
  have hk9 : k ≤ 900000 := by omega
  obtain ⟨wx, hX0, hwx⟩ := do_start h x
  have X := Lib.hid hX0
  obtain ⟨yp0, yp1, yp2, yp3, yc0, yc1, yc2, yc3, yc4, yc5, yc6, yc7, yc8, yc9, yc10, yc11, yc12, yc13, yc14⟩ := hX0.2.cells
  rw [hx] at yc0
  have HX := Lib.hid hx
  clear hX0 h hx
  unfold bothC actC at hwx ⊢
  go_enter Tryz.func12, Tryz.ntmps12
  go_upto_region 1 with (fail)
  rw [← hwx]
  clear hwx
  have hu := X.out.prog (fun w1 K => part_t X.out.1.t.cur hk9 x.dir x.s w1 K)
  obtain ⟨v, hv0⟩ : ∃ v, (T.part x.dir x.s).2 = v := ⟨_, rfl⟩
  rw [hv0] at hu
  have h0' : (v == v) = true := by simp
  have HV := Lib.hid hv0
  clear hv0
  go_wp2
  go_region_held3 (fun w' => w'.cell? ⟨w.heap.size, 0, none⟩ = some (.pointer (some ⟨tb, 0, none⟩)) ∧ w'.cell? ⟨w.heap.size, 2, none⟩ = some (.pointer (some ⟨rb, 0, none⟩)) ∧ w'.cell? ⟨w.heap.size + 1, 1, none⟩ = some (.int .i64 x.dir) ∧ w'.cell? ⟨w.heap.size + 1, 4, none⟩ = some (.string x.s)) (go_keep) (first
    | (go_at_call 43
       refine (hu _ ?_).mono ?_
       · (first | exact Keep.refl _ _ | exact Keep.drew _ _ | exact drewN_keep _ _ _)
       rintro e w4 ⟨rfl, s4, hX4⟩
       have hv := hX4.doc (fun w1 K => rpart_c (hX4.1.t.aside K).ref hX4.1.t.up hX4.1.t.rgood (hX4.1.t.rsmall.mono (by omega)) x.dir x.s)
       rw [HV.out] at hv
       have N4 := Lib.hid hX4
       obtain ⟨ip0, ip1, ip2, ip3, ic0, ic1, ic2, ic3, ic4, ic5, ic6, ic7, ic8, ic9, ic10, ic11, ic12, ic13, ic14⟩ := hX4.2.cells
       clear hu hX4)
    | (go_at_call 44
       refine (hv _ ?_).mono ?_
       · (first | exact Keep.refl _ _ | exact Keep.drew _ _ | exact drewN_keep _ _ _)
       rintro e w5 ⟨rfl, r5, hX5⟩
       have N5 := Lib.hid hX5
       obtain ⟨jp0, jp1, jp2, jp3, jc0, jc1, jc2, jc3, jc4, jc5, jc6, jc7, jc8, jc9, jc10, jc11, jc12, jc13, jc14⟩ := hX5.2.cells
       clear hv hX5))
  all_goals go_wp2
  go_ret
  have hd : doV T V x = ((T.part x.dir x.s).1, V) := by unfold doV; simp [HX.out]
  rw [hd]
  exact ⟨rfl, s4, r5, _, _, N5.out.1.more (by omega)⟩
set_option maxHeartbeats 8000000 in
theorem do4_c {Zw : World} {Z : Nat → Prop} {W w : World} {tb rb mb qb : Nat} {s : TShape} {r : RShape} {T : TreeV} {S R : Nat → Prop} {V : MountV} {bl k : Int} (h : PB W w tb s T rb r T mb S V qb R V bl k Zw Z) (hk : k ≤ 90000) (hV : 0 ≤ V.turns ∧ V.turns ≤ k ∧ V.made ≤ k) (x : ActV) (hx : x.kind = 4) (ha : NameOk x.as_) :
    Calls Tryz.prog 12 #[.agg (bothC tb mb rb qb), .agg (actC x)] w fun e w' => e = .returned (.bool true) ∧ ∃ s' r' S' R', PB W w' tb s' (doV T V x).1 rb r' (doV T V x).1 mb S' (doV T V x).2 qb R' (doV T V x).2 bl (k + 6) Zw Z := by
  have hk9 : k ≤ 900000 := by omega
  obtain ⟨wx, hX0, hwx⟩ := do_start h x
  have X := Lib.hid hX0
  obtain ⟨yp0, yp1, yp2, yp3, yc0, yc1, yc2, yc3, yc4, yc5, yc6, yc7, yc8, yc9, yc10, yc11, yc12, yc13, yc14⟩ := hX0.2.cells
  rw [hx] at yc0
  have HX := Lib.hid hx
  clear hX0 h hx
  unfold bothC actC at hwx ⊢
  go_enter Tryz.func12, Tryz.ntmps12
  go_upto_region 1 with (fail)
  rw [← hwx]
  clear hwx
  have hu := X.out.prog (fun w1 K => move_t X.out.1.t.cur hk9 (right_n ha) x.dir x.s x.to_ w1 K)
  obtain ⟨v, hv0⟩ : ∃ v, (T.move true x.dir x.s x.to_ x.as_).2 = v := ⟨_, rfl⟩
  rw [hv0] at hu
  have h0' : (v == v) = true := by simp
  have HV := Lib.hid hv0
  clear hv0
  go_wp2
  go_region_held3 (fun w' => w'.cell? ⟨w.heap.size, 0, none⟩ = some (.pointer (some ⟨tb, 0, none⟩)) ∧ w'.cell? ⟨w.heap.size, 2, none⟩ = some (.pointer (some ⟨rb, 0, none⟩)) ∧ w'.cell? ⟨w.heap.size + 1, 1, none⟩ = some (.int .i64 x.dir) ∧ w'.cell? ⟨w.heap.size + 1, 4, none⟩ = some (.string x.s) ∧ w'.cell? ⟨w.heap.size + 1, 2, none⟩ = some (.int .i64 x.to_) ∧ w'.cell? ⟨w.heap.size + 1, 5, none⟩ = some (.string x.as_)) (go_keep) (first
    | (go_at_call 34
       refine (hu _ ?_).mono ?_
       · (first | exact Keep.refl _ _ | exact Keep.drew _ _ | exact drewN_keep _ _ _)
       rintro e w4 ⟨rfl, s4, hX4⟩
       have hv := hX4.doc (fun w1 K => rtmove_c (hX4.1.t.aside K).ref hX4.1.t.up hX4.1.t.rgood (hX4.1.t.rsmall.mono (by omega)) (rright_n ha) x.dir x.s x.to_)
       rw [HV.out] at hv
       have N4 := Lib.hid hX4
       obtain ⟨ip0, ip1, ip2, ip3, ic0, ic1, ic2, ic3, ic4, ic5, ic6, ic7, ic8, ic9, ic10, ic11, ic12, ic13, ic14⟩ := hX4.2.cells
       clear hu hX4)
    | (go_at_call 45
       refine (hv _ ?_).mono ?_
       · (first | exact Keep.refl _ _ | exact Keep.drew _ _ | exact drewN_keep _ _ _)
       rintro e w5 ⟨rfl, r5, hX5⟩
       have N5 := Lib.hid hX5
       obtain ⟨jp0, jp1, jp2, jp3, jc0, jc1, jc2, jc3, jc4, jc5, jc6, jc7, jc8, jc9, jc10, jc11, jc12, jc13, jc14⟩ := hX5.2.cells
       clear hv hX5))
  all_goals go_wp2
  go_ret
  have hd : doV T V x = ((T.move true x.dir x.s x.to_ x.as_).1, V) := by unfold doV; simp [HX.out]
  rw [hd]
  exact ⟨rfl, s4, r5, _, _, N5.out.1.more (by omega)⟩
set_option maxHeartbeats 8000000 in
theorem do5_c {Zw : World} {Z : Nat → Prop} {W w : World} {tb rb mb qb : Nat} {s : TShape} {r : RShape} {T : TreeV} {S R : Nat → Prop} {V : MountV} {bl k : Int} (h : PB W w tb s T rb r T mb S V qb R V bl k Zw Z) (hk : k ≤ 90000) (hV : 0 ≤ V.turns ∧ V.turns ≤ k ∧ V.made ≤ k) (x : ActV) (hx : x.kind = 5) :
    Calls Tryz.prog 12 #[.agg (bothC tb mb rb qb), .agg (actC x)] w fun e w' => e = .returned (.bool true) ∧ ∃ s' r' S' R', PB W w' tb s' (doV T V x).1 rb r' (doV T V x).1 mb S' (doV T V x).2 qb R' (doV T V x).2 bl (k + 6) Zw Z := by
  have hk9 : k ≤ 900000 := by omega
  obtain ⟨wx, hX0, hwx⟩ := do_start h x
  have X := Lib.hid hX0
  obtain ⟨yp0, yp1, yp2, yp3, yc0, yc1, yc2, yc3, yc4, yc5, yc6, yc7, yc8, yc9, yc10, yc11, yc12, yc13, yc14⟩ := hX0.2.cells
  rw [hx] at yc0
  have HX := Lib.hid hx
  clear hX0 h hx
  unfold bothC actC at hwx ⊢
  go_enter Tryz.func12, Tryz.ntmps12
  go_upto_region 1 with (fail)
  rw [← hwx]
  clear hwx
  have hu := X.out.prog (fun w1 K => setmode_t X.out.1.t.cur hk9 x.dir x.n w1 K)
  obtain ⟨v, hv0⟩ : ∃ v, (T.setMode x.dir (maskV x.n)).2 = v := ⟨_, rfl⟩
  rw [hv0] at hu
  have h0' : (v == v) = true := by simp
  have HV := Lib.hid hv0
  clear hv0
  go_wp2
  go_region_held3 (fun w' => w'.cell? ⟨w.heap.size, 0, none⟩ = some (.pointer (some ⟨tb, 0, none⟩)) ∧ w'.cell? ⟨w.heap.size, 2, none⟩ = some (.pointer (some ⟨rb, 0, none⟩)) ∧ w'.cell? ⟨w.heap.size + 1, 1, none⟩ = some (.int .i64 x.dir) ∧ w'.cell? ⟨w.heap.size + 1, 3, none⟩ = some (.int .i64 x.n)) (go_keep) (first
    | (go_at_call 46
       refine (hu _ ?_).mono ?_
       · (first | exact Keep.refl _ _ | exact Keep.drew _ _ | exact drewN_keep _ _ _)
       rintro e w4 ⟨rfl, s4, hX4⟩
       have hv := hX4.doc (fun w1 K => rsetmode_c (hX4.1.t.aside K).ref hX4.1.t.up hX4.1.t.rgood (hX4.1.t.rsmall.mono (by omega)) x.dir x.n)
       rw [HV.out] at hv
       have N4 := Lib.hid hX4
       obtain ⟨ip0, ip1, ip2, ip3, ic0, ic1, ic2, ic3, ic4, ic5, ic6, ic7, ic8, ic9, ic10, ic11, ic12, ic13, ic14⟩ := hX4.2.cells
       clear hu hX4)
    | (go_at_call 47
       refine (hv _ ?_).mono ?_
       · (first | exact Keep.refl _ _ | exact Keep.drew _ _ | exact drewN_keep _ _ _)
       rintro e w5 ⟨rfl, r5, hX5⟩
       have N5 := Lib.hid hX5
       obtain ⟨jp0, jp1, jp2, jp3, jc0, jc1, jc2, jc3, jc4, jc5, jc6, jc7, jc8, jc9, jc10, jc11, jc12, jc13, jc14⟩ := hX5.2.cells
       clear hv hX5))
  all_goals go_wp2
  go_ret
  have hd : doV T V x = ((T.setMode x.dir (maskV x.n)).1, V) := by unfold doV; simp [HX.out]
  rw [hd]
  exact ⟨rfl, s4, r5, _, _, N5.out.1.more (by omega)⟩
set_option maxHeartbeats 8000000 in
theorem do7_c {Zw : World} {Z : Nat → Prop} {W w : World} {tb rb mb qb : Nat} {s : TShape} {r : RShape} {T : TreeV} {S R : Nat → Prop} {V : MountV} {bl k : Int} (h : PB W w tb s T rb r T mb S V qb R V bl k Zw Z) (hk : k ≤ 90000) (hV : 0 ≤ V.turns ∧ V.turns ≤ k ∧ V.made ≤ k) (x : ActV) (hx : x.kind = 7) :
    Calls Tryz.prog 12 #[.agg (bothC tb mb rb qb), .agg (actC x)] w fun e w' => e = .returned (.bool true) ∧ ∃ s' r' S' R', PB W w' tb s' (doV T V x).1 rb r' (doV T V x).1 mb S' (doV T V x).2 qb R' (doV T V x).2 bl (k + 6) Zw Z := by
  have hk9 : k ≤ 900000 := by omega
  obtain ⟨wx, hX0, hwx⟩ := do_start h x
  have X := Lib.hid hX0
  obtain ⟨yp0, yp1, yp2, yp3, yc0, yc1, yc2, yc3, yc4, yc5, yc6, yc7, yc8, yc9, yc10, yc11, yc12, yc13, yc14⟩ := hX0.2.cells
  rw [hx] at yc0
  have HX := Lib.hid hx
  clear hX0 h hx
  unfold bothC actC at hwx ⊢
  go_enter Tryz.func12, Tryz.ntmps12
  go_upto_region 1 with (fail)
  rw [← hwx]
  clear hwx
  have hu := X.out.mprog (fun w1 K => munbind_c (X.out.1.aside K).m ⟨hV.1, by omega⟩ x.n)
  obtain ⟨v, hv0⟩ : ∃ v, (V.unbind x.n).2 = v := ⟨_, rfl⟩
  rw [hv0] at hu
  have h0' : (v == v) = true := by simp
  have HV := Lib.hid hv0
  clear hv0
  go_wp2
  go_region_held3 (fun w' => w'.cell? ⟨w.heap.size, 1, none⟩ = some (.pointer (some ⟨mb, 0, none⟩)) ∧ w'.cell? ⟨w.heap.size, 3, none⟩ = some (.pointer (some ⟨qb, 0, none⟩)) ∧ w'.cell? ⟨w.heap.size + 1, 3, none⟩ = some (.int .i64 x.n)) (go_keep) (first
    | (go_at_call 49
       refine (hu _ ?_).mono ?_
       · (first | exact Keep.refl _ _ | exact Keep.drew _ _ | exact drewN_keep _ _ _)
       rintro e w4 ⟨rfl, S4, hX4⟩
       have hv := hX4.mdoc (fun w1 K => rmunbind_c (hX4.1.aside K).q (by omega) x.n)
       rw [HV.out] at hv
       have N4 := Lib.hid hX4
       obtain ⟨ip0, ip1, ip2, ip3, ic0, ic1, ic2, ic3, ic4, ic5, ic6, ic7, ic8, ic9, ic10, ic11, ic12, ic13, ic14⟩ := hX4.2.cells
       clear hu hX4)
    | (go_at_call 50
       refine (hv _ ?_).mono ?_
       · (first | exact Keep.refl _ _ | exact Keep.drew _ _ | exact drewN_keep _ _ _)
       rintro e w5 ⟨rfl, R5, hX5⟩
       have N5 := Lib.hid hX5
       obtain ⟨jp0, jp1, jp2, jp3, jc0, jc1, jc2, jc3, jc4, jc5, jc6, jc7, jc8, jc9, jc10, jc11, jc12, jc13, jc14⟩ := hX5.2.cells
       clear hv hX5))
  all_goals go_wp2
  go_ret
  have hd : doV T V x = (T, (V.unbind x.n).1) := by unfold doV; simp [HX.out]
  rw [hd]
  exact ⟨rfl, _, _, S4, R5, N5.out.1.more (by omega)⟩
set_option maxHeartbeats 8000000 in
theorem do8_c {Zw : World} {Z : Nat → Prop} {W w : World} {tb rb mb qb : Nat} {s : TShape} {r : RShape} {T : TreeV} {S R : Nat → Prop} {V : MountV} {bl k : Int} (h : PB W w tb s T rb r T mb S V qb R V bl k Zw Z) (hk : k ≤ 90000) (hV : 0 ≤ V.turns ∧ V.turns ≤ k ∧ V.made ≤ k) (x : ActV) (hx : x.kind = 8) :
    Calls Tryz.prog 12 #[.agg (bothC tb mb rb qb), .agg (actC x)] w fun e w' => e = .returned (.bool true) ∧ ∃ s' r' S' R', PB W w' tb s' (doV T V x).1 rb r' (doV T V x).1 mb S' (doV T V x).2 qb R' (doV T V x).2 bl (k + 6) Zw Z := by
  have hk9 : k ≤ 900000 := by omega
  obtain ⟨wx, hX0, hwx⟩ := do_start h x
  have X := Lib.hid hX0
  obtain ⟨yp0, yp1, yp2, yp3, yc0, yc1, yc2, yc3, yc4, yc5, yc6, yc7, yc8, yc9, yc10, yc11, yc12, yc13, yc14⟩ := hX0.2.cells
  rw [hx] at yc0
  have HX := Lib.hid hx
  clear hX0 h hx
  unfold bothC actC at hwx ⊢
  go_enter Tryz.func12, Tryz.ntmps12
  go_upto_region 1 with (fail)
  rw [← hwx]
  clear hwx
  have hu := X.out.prog (fun w1 K => setowner_t X.out.1.t.cur hk9 x.dir x.n x.to_ w1 K)
  obtain ⟨v, hv0⟩ : ∃ v, (T.setOwner x.dir x.n x.to_).2 = v := ⟨_, rfl⟩
  rw [hv0] at hu
  have h0' : (v == v) = true := by simp
  have HV := Lib.hid hv0
  clear hv0
  go_wp2
  go_region_held3 (fun w' => w'.cell? ⟨w.heap.size, 0, none⟩ = some (.pointer (some ⟨tb, 0, none⟩)) ∧ w'.cell? ⟨w.heap.size, 2, none⟩ = some (.pointer (some ⟨rb, 0, none⟩)) ∧ w'.cell? ⟨w.heap.size + 1, 1, none⟩ = some (.int .i64 x.dir) ∧ w'.cell? ⟨w.heap.size + 1, 3, none⟩ = some (.int .i64 x.n) ∧ w'.cell? ⟨w.heap.size + 1, 2, none⟩ = some (.int .i64 x.to_)) (go_keep) (first
    | (go_at_call 51
       refine (hu _ ?_).mono ?_
       · (first | exact Keep.refl _ _ | exact Keep.drew _ _ | exact drewN_keep _ _ _)
       rintro e w4 ⟨rfl, s4, hX4⟩
       have hv := hX4.doc (fun w1 K => rsetowner_c (hX4.1.t.aside K).ref hX4.1.t.up hX4.1.t.rgood (hX4.1.t.rsmall.mono (by omega)) x.dir x.n x.to_)
       rw [HV.out] at hv
       have N4 := Lib.hid hX4
       obtain ⟨ip0, ip1, ip2, ip3, ic0, ic1, ic2, ic3, ic4, ic5, ic6, ic7, ic8, ic9, ic10, ic11, ic12, ic13, ic14⟩ := hX4.2.cells
       clear hu hX4)
    | (go_at_call 52
       refine (hv _ ?_).mono ?_
       · (first | exact Keep.refl _ _ | exact Keep.drew _ _ | exact drewN_keep _ _ _)
       rintro e w5 ⟨rfl, r5, hX5⟩
       have N5 := Lib.hid hX5
       obtain ⟨jp0, jp1, jp2, jp3, jc0, jc1, jc2, jc3, jc4, jc5, jc6, jc7, jc8, jc9, jc10, jc11, jc12, jc13, jc14⟩ := hX5.2.cells
       clear hv hX5))
  all_goals go_wp2
  go_ret
  have hd : doV T V x = ((T.setOwner x.dir x.n x.to_).1, V) := by unfold doV; simp [HX.out]
  rw [hd]
  exact ⟨rfl, s4, r5, _, _, N5.out.1.more (by omega)⟩
end Go.Proofs.YtoanccechefclaaGreatDoor
