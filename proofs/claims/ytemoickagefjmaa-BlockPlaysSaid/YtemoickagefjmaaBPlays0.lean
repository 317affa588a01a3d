/-
  The pool and the document's, side by side.
-/
import Derived.Test.YtemoickagefjmaaRPool8
import Derived.Test.YtemoickagefjmaaRoomy
namespace Go.Proofs.Ytemoickagefjmaa
open Go Go.RowKit
set_option linter.unusedSectionVars false
set_option linter.unusedSimpArgs false
set_option linter.unusedVariables false
set_option maxRecDepth 100000

theorem addr_plain9 {w : World} {x : Addr} {v : Value} (h : w.cell? (x.add 0) = some v) : ∃ b off, x = ⟨b, off, none⟩ ∧ b < w.heap.size ∧ ∀ i, x.add i = ⟨b, off + i, none⟩ := by
  obtain ⟨b, off, sp⟩ := x
  have hsp : sp = none := by
    cases sp with
    | none => rfl
    | some q =>
      simp only [Addr.add, if_true] at h
      unfold World.cell? at h
      split at h <;> simp at h
  subst hsp
  refine ⟨b, off, rfl, ?_, fun i => ?_⟩
  · have := World.block_lt_of_cell? w _ h
    simpa [Addr.add] using this
  · unfold Addr.add
    split
    · rename_i h0; subst h0; rfl
    · rfl

theorem take_get9 {α : Type} {l : List α} {n i : Nat} {x : α} (h : (l.take n)[i]? = some x) : l[i]? = some x := by
  rw [List.getElem?_take] at h
  split at h
  · exact h
  · simp at h

theorem bsr_of_row9 {w : World} {a : Option Addr} {len cap : Nat} {zs : List Int} (h : RowIs w a len cap zs) : ∃ l : Bs, l.length = len ∧ len ≤ maxLen ∧ BSr w (.slice a len cap) l := by
  rcases h with ⟨rfl, rfl, rfl, _⟩ | ⟨x, rfl, h1, h2, h3, h4, h5⟩
  · exact ⟨[], rfl, Nat.zero_le _, .inl (BSl.nil w)⟩
  · by_cases h0 : len = 0
    · subst h0
      exact ⟨[], rfl, Nat.zero_le _, .inr ⟨rfl, x, cap, rfl, h2⟩⟩
    · obtain ⟨b, off, rfl, hb, ha⟩ := addr_plain9 (h4 0 (by omega))
      have hl : ((zs.take len).map fun z => UInt8.ofNat z.toNat).length = len := by rw [List.length_map, List.length_take]; omega
      refine ⟨(zs.take len).map fun z => UInt8.ofNat z.toNat, hl, by omega, .inl (.inr ⟨b, off, cap, by rw [hl], by rw [hl]; exact h1, h2, hb, fun i u hi => ?_⟩)⟩
      rw [List.getElem?_map] at hi
      cases hz : (zs.take len)[i]? with
      | none => rw [hz] at hi; simp at hi
      | some z =>
        rw [hz] at hi
        simp at hi
        subst hi
        have h6 := take_get9 hz
        obtain ⟨h7, h8⟩ := List.getElem?_eq_some_iff.1 h6
        have h9 := h4 i h7
        rw [ha] at h9
        have hbd := bounds_u8 (h5 z (List.mem_of_getElem? h6))
        rw [h9, List.getD_eq_getElem?_getD, h6]
        unfold u8V
        simp only [Option.getD_some]
        congr 2
        simp
        omega

/-- A part of it, from its head on. -/
theorem BSr.front {w : World} {a : Option Addr} {m cap : Nat} {l : Bs} (h : BSr w (.slice a m cap) l) {n : Nat} (hn : n ≤ m) (hm : m = l.length) : BSr w (.slice a n cap) (l.take n) := by
  have hl : (l.take n).length = n := by rw [List.length_take]; omega
  rcases h with (⟨e, rfl⟩ | ⟨b, off, c, e, h1, h2, h3, h4⟩) | ⟨rfl, ad, c, e, h2⟩
  · cases e
    have : n = 0 := by omega
    subst this
    exact .inl (.inl ⟨rfl, rfl⟩)
  · cases e
    refine .inl (.inr ⟨b, off, cap, by rw [hl], by omega, h2, h3, fun i u hi => h4 i u (take_get9 hi)⟩)
  · cases e
    have : n = 0 := by omega
    subst this
    exact .inr ⟨rfl, ad, cap, rfl, h2⟩

theorem bytesIn_old {w : World} {v : Value} {l : Bs} (h : BSr w v l) : BytesIn w v (ints l) (fun b => w.heap.size ≤ b) := by
  have hr : ∀ c ∈ ints l, 0 ≤ c ∧ c < 256 := fun c hc => by
    obtain ⟨u, _, rfl⟩ := List.mem_map.1 hc
    have := byte_lt u
    omega
  rcases h with (⟨rfl, rfl⟩ | ⟨b, off, cap, rfl, _, _, hb, hc⟩) | ⟨rfl, ad, cap, rfl, _⟩
  · exact ⟨hr, none, 0, rfl, .inl rfl⟩
  · refine ⟨hr, _, cap, by rw [ints_len], .inr ⟨b, off, rfl, fun q => by omega, fun i hi => ?_⟩⟩
    rw [ints_len] at hi
    rw [hc i _ (List.getElem?_eq_getElem hi), ints_get hi]
    rfl
  · exact ⟨hr, _, cap, rfl, .inl rfl⟩

structure PBoth (W w : World) (pb rb : Nat) (n : Int) (S R : Nat → Prop) (V V2 : PoolV) : Prop where
  keep : Keep W w (fun _ => False)
  tab : PoolAt w pb S V
  ok : V.ok n
  ref : RPoolAt w rb R n V2
  sr : ∀ b, S b → ¬ R b
  s0 : ∀ b, S b → W.heap.size ≤ b
  r0 : ∀ b, R b → W.heap.size ≤ b

section
variable {W w w' : World} {pb rb : Nat} {n : Int} {S R S' R' : Nat → Prop} {V V2 V' : PoolV}
theorem PBoth.pool (h : PBoth W w pb rb n S R V V2) (ht : PoolAt w' pb S' V') (k : Turn w S w' S') (ho : V'.ok n) : PBoth W w' pb rb n S' R V' V2 :=
  ⟨h.keep.trans k.keep (fun b q => .inr (h.s0 b q)), ht, ho, h.ref.keep k.keep (fun b q z => h.sr b z q), fun b q z => (k.new b q).elim (fun y => h.sr b y z) (fun y => by have := h.ref.lt b z; omega),
    fun b q => (k.new b q).elim (h.s0 b) (fun y => by have := h.keep.size; omega), h.r0⟩
theorem PBoth.refs (h : PBoth W w pb rb n S R V V2) (ht : RPoolAt w' rb R' n V') (k : Turn w R w' R') : PBoth W w' pb rb n S R' V V' :=
  ⟨h.keep.trans k.keep (fun b q => .inr (h.r0 b q)), h.tab.keep k.keep (fun b q z => h.sr b q z), h.ok, ht, fun b q z => (k.new b z).elim (fun y => h.sr b q y) (fun y => by have := h.tab.lt q; omega),
    h.s0, fun b q => (k.new b q).elim (h.r0 b) (fun y => by have := h.keep.size; omega)⟩
theorem PBoth.aside (h : PBoth W w pb rb n S R V V2) (k : Keep w w' (fun _ => False)) : PBoth W w' pb rb n S R V V2 :=
  ⟨h.keep.trans k (fun b q => q.elim), h.tab.keep k (fun _ _ q => q), h.ok, h.ref.aside k, h.sr, h.s0, h.r0⟩

/-- An ask of layer 9. -/
structure AskB where
  kind : Int
  f : Int
  at_ : Int
  n : Int
  v : Value

structure PBox (wr : World) (S R : Nat → Prop) (xb : Nat) (x : AskB) : Prop where
  box : wr.heap[xb]? = some (.cells #[.int .i64 x.kind, .int .i64 x.f, .int .i64 x.at_, .int .i64 x.n, x.v] 32 (0, 0))
  s : ¬ S xb
  r : ¬ R xb

variable {xb : Nat} {x : AskB}
theorem PBox.pool (h : PBox w S R xb x) (t : Turn w S w' S') : PBox w' S' R xb x :=
  ⟨t.keep.get h.box h.s, fun q => (t.new _ q).elim h.s (fun y => by have := lt_of_blk h.box; omega), h.r⟩
theorem PBox.refs (h : PBox w S R xb x) (t : Turn w R w' R') : PBox w' S R' xb x :=
  ⟨t.keep.get h.box h.r, h.s, fun q => (t.new _ q).elim h.r (fun y => by have := lt_of_blk h.box; omega)⟩
theorem PBox.aside (h : PBox w S R xb x) (t : Keep w w' (fun _ => False)) : PBox w' S R xb x :=
  ⟨t.get h.box (fun q => q), h.s, h.r⟩

def PW (W w : World) (pb rb xb : Nat) (n : Int) (S R : Nat → Prop) (V V2 : PoolV) (x : AskB) : Prop := PBoth W w pb rb n S R V V2 ∧ PBox w S R xb x
theorem PW.pool (h : PW W w pb rb xb n S R V V2 x) (ht : PoolAt w' pb S' V') (t : Turn w S w' S') (ho : V'.ok n) : PW W w' pb rb xb n S' R V' V2 x := ⟨h.1.pool ht t ho, h.2.pool t⟩
theorem PW.refs (h : PW W w pb rb xb n S R V V2 x) (ht : RPoolAt w' rb R' n V') (t : Turn w R w' R') : PW W w' pb rb xb n S R' V V' x := ⟨h.1.refs ht t, h.2.refs t⟩
theorem PW.aside (h : PW W w pb rb xb n S R V V2 x) (t : Keep w w' (fun _ => False)) : PW W w' pb rb xb n S R V V2 x := ⟨h.1.aside t, h.2.aside t⟩
theorem PW.cells (h : PW W w pb rb xb n S R V V2 x) : w.cell? ⟨xb, 1, none⟩ = some (.int .i64 x.f) ∧ w.cell? ⟨xb, 2, none⟩ = some (.int .i64 x.at_) ∧ w.cell? ⟨xb, 3, none⟩ = some (.int .i64 x.n) ∧ w.cell? ⟨xb, 4, none⟩ = some x.v :=
  ⟨by rw [cell_blk h.2.box]; rfl, by rw [cell_blk h.2.box]; rfl, by rw [cell_blk h.2.box]; rfl, by rw [cell_blk h.2.box]; rfl⟩

theorem file_pw (h : PW W w pb rb xb n S R V V2 x) (hm : V.made ≤ 100) (w1 : World) (K : Keep w w1 (fun _ => False)) :
    Calls Try.prog 12 #[.pointer (some ⟨pb, 0, none⟩)] w1 fun e w4 => e = .returned (.int .i64 (V.made + 1)) ∧ ∃ S', PW W w4 pb rb xb n S' R V.file V2 x := by
  have h1 := h.aside K
  refine (file_cc h1.1.tab h1.1.ok (by omega)).mono ?_
  rintro e w4 ⟨rfl, S', hL, hT⟩
  exact ⟨rfl, S', h1.pool hL hT h1.1.ok.file⟩
theorem make_pw (h : PW W w pb rb xb n S R V V2 x) (hm : V2.made ≤ 100) (w1 : World) (K : Keep w w1 (fun _ => False)) :
    Calls Try.prog 13 #[.pointer (some ⟨rb, 0, none⟩)] w1 fun e w4 => e = .returned (.int .i64 (V2.made + 1)) ∧ ∃ R', PW W w4 pb rb xb n S R' V V2.file x := by
  have h1 := h.aside K
  refine (rmake_c h1.1.ref (by omega)).mono ?_
  rintro e w4 ⟨rfl, S', hL, hT⟩
  exact ⟨rfl, S', h1.refs hL hT⟩

theorem drop_pw (h : PW W w pb rb xb n S R V V2 x) (w1 : World) (K : Keep w w1 (fun _ => False)) :
    Calls Try.prog 14 #[.pointer (some ⟨pb, 0, none⟩), .int .i64 x.f] w1 fun e w4 => e = .returned (.int .i64 (V.drop x.f).2) ∧ ∃ S', PW W w4 pb rb xb n S' R (V.drop x.f).1 V2 x := by
  have h1 := h.aside K
  refine (drop_c h1.1.tab h1.1.ok x.f).mono ?_
  rintro e w4 ⟨rfl, S', hL, hT⟩
  exact ⟨rfl, S', h1.pool hL hT (h1.1.ok.drop _)⟩
theorem rdrop_pw (h : PW W w pb rb xb n S R V V2 x) (hm : V2.made ≤ 100) (w1 : World) (K : Keep w w1 (fun _ => False)) :
    Calls Try.prog 15 #[.pointer (some ⟨rb, 0, none⟩), .int .i64 x.f] w1 fun e w4 => e = .returned (.int .i64 (V2.drop x.f).2) ∧ ∃ R', PW W w4 pb rb xb n S R' V (V2.drop x.f).1 x := by
  have h1 := h.aside K
  refine (rpdrop_c h1.1.ref (by omega) x.f).mono ?_
  rintro e w4 ⟨rfl, S', hL, hT⟩
  exact ⟨rfl, S', h1.refs hL hT⟩

theorem cut_pw (h : PW W w pb rb xb n S R V V2 x) (w1 : World) (K : Keep w w1 (fun _ => False)) :
    Calls Try.prog 22 #[.pointer (some ⟨pb, 0, none⟩), .int .i64 x.f, .int .i64 x.n] w1 fun e w4 => e = .returned (.int .i64 (V.cut x.f x.n).2) ∧ ∃ S', PW W w4 pb rb xb n S' R (V.cut x.f x.n).1 V2 x := by
  have h1 := h.aside K
  refine (cut_c h1.1.tab h1.1.ok x.f x.n).mono ?_
  rintro e w4 ⟨rfl, S', hL, hT⟩
  exact ⟨rfl, S', h1.pool hL hT (h1.1.ok.cut _ _)⟩
theorem rcut_pw (h : PW W w pb rb xb n S R V V2 x) (hm : V2.made ≤ 100) (w1 : World) (K : Keep w w1 (fun _ => False)) :
    Calls Try.prog 23 #[.pointer (some ⟨rb, 0, none⟩), .int .i64 x.f, .int .i64 x.n] w1 fun e w4 => e = .returned (.int .i64 (V2.cut x.f x.n).2) ∧ ∃ R', PW W w4 pb rb xb n S R' V (V2.cut x.f x.n).1 x := by
  have h1 := h.aside K
  refine (rcut_c h1.1.ref (by omega) x.f x.n).mono ?_
  rintro e w4 ⟨rfl, S', hL, hT⟩
  exact ⟨rfl, S', h1.refs hL hT⟩

theorem write_pw (h : PW W w pb rb xb n S R V V2 x) {v : Value} {l : List Int} (hb : BytesIn w v l S) (hlen : l.length ≤ maxLen) (w1 : World) (K : Keep w w1 (fun _ => False)) :
    Calls Try.prog 19 #[.pointer (some ⟨pb, 0, none⟩), .int .i64 x.f, .int .i64 x.at_, v] w1 fun e w4 => e = .returned (.int .i64 (V.write x.f x.at_ l).2) ∧ ∃ S', PW W w4 pb rb xb n S' R (V.write x.f x.at_ l).1 V2 x ∧ Turn w S w4 S' := by
  have h1 := h.aside K
  refine (write_c h1.1.tab h1.1.ok x.f x.at_ (hb.keep K (fun _ q => q.elim)) hlen).mono ?_
  rintro e w4 ⟨rfl, S', hL, hT⟩
  exact ⟨rfl, S', h1.pool hL hT (h1.1.ok.write _ _ hb.1), ⟨(K.mono (fun _ q => q.elim)).trans hT.keep (fun b q => .inl q), fun b q => (hT.new b q).imp id (fun z => Nat.le_trans K.size z)⟩⟩
theorem rwrite_pw (h : PW W w pb rb xb n S R V V2 x) (hm : V2.made ≤ 100) {v : Value} {l : List Int} (hb : BytesIn w v l R) (hlen : l.length ≤ maxLen) (w1 : World) (K : Keep w w1 (fun _ => False)) :
    Calls Try.prog 20 #[.pointer (some ⟨rb, 0, none⟩), .int .i64 x.f, .int .i64 x.at_, v] w1 fun e w4 => e = .returned (.int .i64 (V2.write x.f x.at_ l).2) ∧ ∃ R', PW W w4 pb rb xb n S R' V (V2.write x.f x.at_ l).1 x ∧ Turn w R w4 R' := by
  have h1 := h.aside K
  refine (rwrite_c h1.1.ref (by omega) x.f x.at_ (hb.keep K (fun _ q => q.elim)) hlen).mono ?_
  rintro e w4 ⟨rfl, S', hL, hT⟩
  exact ⟨rfl, S', h1.refs hL hT, ⟨(K.mono (fun _ q => q.elim)).trans hT.keep (fun b q => .inl q), fun b q => (hT.new b q).imp id (fun z => Nat.le_trans K.size z)⟩⟩

theorem read_pb (h : PBoth W w pb rb n S R V V2) (f p k : Int) :
    Calls Try.prog 16 #[.pointer (some ⟨pb, 0, none⟩), .int .i64 f, .int .i64 p, .int .i64 k] w fun e w4 => ∃ v, e = .returned (.tuple #[v, .int .i64 (V.read f p k).2]) ∧ BytesIn w4 v (V.read f p k).1 (fun _ => False) ∧ Keep w w4 (fun _ => False) := by
  refine (read_c h.tab f p k).mono ?_
  rintro e w4 ⟨v, rfl, hv, hk⟩
  exact ⟨v, rfl, hv.bytesIn (h.ok.read_bytes f p k) (fun _ q => q.elim), hk⟩
theorem rread_pb (h : PBoth W w pb rb n S R V V2) (hm : V2.made ≤ 100) (f p k : Int) :
    Calls Try.prog 17 #[.pointer (some ⟨rb, 0, none⟩), .int .i64 f, .int .i64 p, .int .i64 k] w fun e w4 => ∃ v, e = .returned (.tuple #[v, .int .i64 (V2.read f p k).2]) ∧ BytesIn w4 v (V2.read f p k).1 (fun _ => False) ∧ Keep w w4 (fun _ => False) := by
  refine (rread_c h.ref (by omega) f p k).mono ?_
  rintro e w4 ⟨v, rfl, h1, h2, hk⟩
  exact ⟨v, rfl, BytesIn.of_own h1 (h.ref.ok.read_bytes f p k) (fun _ _ q => q), hk⟩
theorem size_pb (h : PBoth W w pb rb n S R V V2) (f : Int) (w1 : World) (K : Keep w w1 (fun _ => False)) :
    Calls Try.prog 24 #[.pointer (some ⟨pb, 0, none⟩), .int .i64 f] w1 fun e w4 => e = .returned (.int .i64 (V.size f)) ∧ w4 = w1 := by
  have h1 := h.aside K
  exact (size_c h1.tab f).mono fun e w4 q => ⟨q.1, q.2.symm⟩
theorem rsize_pb (h : PBoth W w pb rb n S R V V2) (hm : V2.made ≤ 100) (f : Int) (w1 : World) (K : Keep w w1 (fun _ => False)) :
    Calls Try.prog 25 #[.pointer (some ⟨rb, 0, none⟩), .int .i64 f] w1 fun e w4 => e = .returned (.int .i64 (V2.size f)) ∧ w4 = w1 := by
  have h1 := h.aside K
  exact rSize_c h1.ref (by omega) f
theorem used_pb (h : PBoth W w pb rb n S R V V2) (f : Int) (w1 : World) (K : Keep w w1 (fun _ => False)) :
    Calls Try.prog 26 #[.pointer (some ⟨pb, 0, none⟩), .int .i64 f] w1 fun e w4 => e = .returned (.int .i64 (V.used f)) ∧ w4 = w1 := by
  have h1 := h.aside K
  exact (used_c h1.tab f).mono fun e w4 q => ⟨q.1, q.2.symm⟩
theorem rused_pb (h : PBoth W w pb rb n S R V V2) (hm : V2.made ≤ 100) (f : Int) (w1 : World) (K : Keep w w1 (fun _ => False)) :
    Calls Try.prog 27 #[.pointer (some ⟨rb, 0, none⟩), .int .i64 f] w1 fun e w4 => e = .returned (.int .i64 (V2.used f)) ∧ w4 = w1 := by
  have h1 := h.aside K
  exact rUsed_c h1.ref (by omega) f
theorem left_pb (h : PBoth W w pb rb n S R V V2) (w1 : World) (K : Keep w w1 (fun _ => False)) :
    Calls Try.prog 28 #[.pointer (some ⟨pb, 0, none⟩)] w1 fun e w4 => e = .returned (.int .i64 (V.left)) ∧ w4 = w1 := by
  have h1 := h.aside K
  exact (left_c h1.tab).mono fun e w4 q => ⟨q.1, q.2.symm⟩
theorem rleft_pb (h : PBoth W w pb rb n S R V V2) (hm : V2.made ≤ 100) (w1 : World) (K : Keep w w1 (fun _ => False)) :
    Calls Try.prog 29 #[.pointer (some ⟨rb, 0, none⟩)] w1 fun e w4 => e = .returned (.int .i64 (V2.left)) ∧ w4 = w1 := by
  have h1 := h.aside K
  exact rLeft_c h1.ref (by omega)

theorem bytesIn_at {w : World} {g cap : Nat} {l : Bs} {D : Nat → Prop} (h : BSl w (.slice (some ⟨g, 0, none⟩) l.length cap) l) (hD : ¬ D g) : BytesIn w (.slice (some ⟨g, 0, none⟩) l.length cap) (ints l) D := by
  obtain ⟨h1, _⟩ := bytesIn_old (.inl h)
  refine ⟨h1, _, cap, by rw [ints_len], .inr ⟨g, 0, rfl, hD, fun i hi => ?_⟩⟩
  rw [ints_len] at hi
  rcases h with ⟨e, _⟩ | ⟨b, off, c, e, _, _, _, hc⟩
  · cases e
  · cases e
    rw [hc i _ (List.getElem?_eq_getElem hi), ints_get hi]
    rfl
end

end Go.Proofs.Ytemoickagefjmaa
