/-
  ChainLooks, the plain law: what a look finds while keys are put and dropped; the look, the two tables and the numbers seen, side by side in memory.
-/
import Derived.Test.YtkdpkmlmkholmaaChainA
import Derived.Test.YtkdpkmlmkholmaaChain8
import Derived.Test.YtkdpkmlmkholmaaStructs
import Derived.Test.YtkdpkmlmkholmaaWithin
namespace Go.Proofs.Ytkdpkmlmkholmaa
open Go Go.RowKit
set_option linter.unusedSectionVars false
set_option linter.unusedSimpArgs false
set_option linter.unusedVariables false

/-- Where the look stands as to the key that was there all along. -/
def Waits (key : ByteArray) (T0 : List Pair) (V : LookV) (P : List (Nat × Pair)) : Prop :=
  (V.over = false ∧ ∃ x ∈ P, x.2 = (key, (aget T0 key).getD 0)) ∨ V.found = true

structure Mid (key : ByteArray) (C0 T0 : List Pair) (al nv : Bool) (V : LookV) (P : List (Nat × Pair)) (T : List Pair) : Prop where
  sub : (P.map Prod.snd).Sublist C0
  fnd : V.found = true → (aget T0 key).isSome = true ∧ V.v = (aget T0 key).getD 0 ∧ V.over = true
  nf : V.found = false → V.v = 0
  st0 : 0 ≤ V.steps
  st1 : V.over = false → V.steps + P.length ≤ C0.length
  st2 : V.steps ≤ C0.length + 1
  alw : al = true → (aget T0 key).isSome = true ∧ (aget T key = aget T0 key → Waits key T0 V P)
  nvr : nv = true → aget T0 key = none

structure Inv (key : ByteArray) (C0 T0 : List Pair) (al nv : Bool) (V : LookV) (P : List (Nat × Pair)) (T : List Pair) : Prop extends Mid key C0 T0 al nv V P T where
  same : al = true → aget T key = aget T0 key

variable {key : ByteArray} {C0 T0 : List Pair} {al nv : Bool} {V : LookV} {P : List (Nat × Pair)} {T : List Pair}

theorem Inv.put (h : Inv key C0 T0 al nv V P T) (T' : List Pair) : Mid key C0 T0 al nv V P T' :=
  ⟨h.sub, h.fnd, h.nf, h.st0, h.st1, h.st2, fun a => ⟨(h.alw a).1, fun _ => (h.alw a).2 (h.same a)⟩, h.nvr⟩

theorem aget_drop {T : List Pair} {s k : ByteArray} (hn : (T.map Prod.fst).Nodup) : aget (dropT T s).1 k = if k = s then none else aget T k := by
  have e : aget (adel T s) k = if k = s then none else aget T k := by
    induction T with
    | nil => simp [adel, aget]
    | cons x r ih =>
      obtain ⟨a, u⟩ := x
      simp only [List.map_cons, List.nodup_cons] at hn
      by_cases h1 : a = s
      · subst h1
        simp only [adel, if_true]
        by_cases h2 : k = a
        · subst h2
          simp only [if_true]
          cases hg : aget r k with
          | none => rfl
          | some z => exact absurd (List.mem_map_of_mem (f := Prod.fst) (pget_mem hg)) hn.1
        · have h3 : ¬ a = k := fun e => h2 e.symm
          simp only [h2, if_false, aget, h3]
      · simp only [adel, h1, if_false, aget, ih hn.2]
        by_cases h2 : a = k
        · subst h2; simp [h1]
        · simp only [h2, if_false]
  unfold dropT
  cases hg : aget T s with
  | some v => exact e
  | none =>
    by_cases h2 : k = s
    · subst h2; simp [hg]
    · simp [h2]

theorem Inv.drop (h : Inv key C0 T0 al nv V P T) (hn : (T.map Prod.fst).Nodup) (s : ByteArray) {P' : List (Nat × Pair)} (hs : P'.Sublist P) (hk : ∀ y ∈ P, y.2.1 ≠ s → y ∈ P') : Mid key C0 T0 al nv V P' (dropT T s).1 := by
  refine ⟨(hs.map Prod.snd).trans h.sub, h.fnd, h.nf, h.st0, fun o => by have := h.st1 o; have := hs.length_le; omega, h.st2, fun a => ⟨(h.alw a).1, fun e => ?_⟩, h.nvr⟩
  rw [aget_drop hn] at e
  by_cases hks : key = s
  · rw [if_pos hks] at e
    have := (h.alw a).1
    rw [← e] at this
    simp at this
  · rcases (h.alw a).2 (h.same a) with ⟨o, x, hx, hxe⟩ | hf
    · exact .inl ⟨o, x, hk x hx (by rw [hxe]; exact hks), hxe⟩
    · exact .inr hf

theorem Inv.step (h : Inv key C0 T0 al nv V P T) (ho : V.over = false) (hC : ∀ x ∈ C0, x.1 = key → aget T0 key = some x.2) : Inv key C0 T0 al nv (stepL key V P).1 (stepL key V P).2 T := by
  have hnf : V.found = false := by
    cases hf : V.found with
    | false => rfl
    | true => have := (h.fnd hf).2.2; rw [ho] at this; simp at this
  have hst := h.st1 ho
  rcases stepL_cases key V P with ⟨rfl, e⟩ | ⟨x, r, rfl, hx, e⟩ | ⟨x, r, rfl, hx, e⟩
  · rw [e]
    simp at hst
    refine ⟨⟨by simp, fun q => ?_, fun _ => h.nf hnf, ?_, fun q => by simp at q, ?_, fun a => ⟨(h.alw a).1, fun q => ?_⟩, h.nvr⟩, h.same⟩
    · simp only at q; rw [hnf] at q; simp at q
    · have := h.st0; simp only; omega
    · simp only; omega
    · rcases (h.alw a).2 q with ⟨_, y, hy, _⟩ | hf
      · simp at hy
      · rw [hnf] at hf; simp at hf
  · rw [e]
    have hxc : x.2 ∈ C0 := h.sub.subset (by simp)
    have hxv := hC x.2 hxc hx
    simp at hst
    refine ⟨⟨h.sub, fun _ => ⟨by rw [hxv]; rfl, by simp only; rw [hxv]; rfl, rfl⟩, fun q => by simp at q, ?_, fun q => by simp at q, ?_, fun a => ⟨(h.alw a).1, fun _ => .inr rfl⟩, h.nvr⟩, h.same⟩
    · have := h.st0; simp only; omega
    · simp only; omega
  · rw [e]
    simp at hst
    refine ⟨⟨(List.sublist_cons_self _ _).trans h.sub, fun q => ?_, h.nf, ?_, fun _ => ?_, ?_, fun a => ⟨(h.alw a).1, fun q => ?_⟩, h.nvr⟩, h.same⟩
    · simp only at q; rw [hnf] at q; simp at q
    · have := h.st0; simp only; omega
    · simp only; omega
    · simp only; omega
    · rcases (h.alw a).2 q with ⟨_, y, hy, hye⟩ | hf
      · rcases List.mem_cons.1 hy with rfl | hy
        · rw [hye] at hx; exact absurd rfl hx
        · exact .inl ⟨ho, y, hy, hye⟩
      · rw [hnf] at hf; simp at hf

/-- What the law notes behind a call. -/
theorem Mid.note (h : Mid key C0 T0 al nv V P T) : Inv key C0 T0 (al && (aget T key).isSome && decide ((aget T key).getD 0 = (aget T0 key).getD 0)) (nv && !(aget T key).isSome) V P T := by
  have hsame : (al && (aget T key).isSome && decide ((aget T key).getD 0 = (aget T0 key).getD 0)) = true → al = true ∧ aget T key = aget T0 key := by
    intro q
    simp only [Bool.and_eq_true, decide_eq_true_eq] at q
    obtain ⟨⟨a, b⟩, c⟩ := q
    obtain ⟨y, hy⟩ := Option.isSome_iff_exists.1 (h.alw a).1
    obtain ⟨z, hz⟩ := Option.isSome_iff_exists.1 b
    rw [hy, hz] at c
    simp at c
    exact ⟨a, by rw [hy, hz, c]⟩
  exact ⟨⟨h.sub, h.fnd, h.nf, h.st0, h.st1, h.st2, fun q => ⟨(h.alw (hsame q).1).1, fun _ => (h.alw (hsame q).1).2 (hsame q).2⟩, fun q => h.nvr (by simp only [Bool.and_eq_true] at q; exact q.1)⟩, fun q => (hsame q).2⟩

/-- At the look's begin. -/
theorem Inv.start {T0 : List Pair} {M : Nat} (hM : 1 ≤ M) (hP : P.map Prod.snd = chainOf T0 M (bucket M key)) : Inv key (chainOf T0 M (bucket M key)) T0 (aget T0 key).isSome (!(aget T0 key).isSome) ⟨false, false, 0, 0⟩ P T0 := by
  refine ⟨⟨by rw [hP]; exact List.Sublist.refl _, fun q => by simp at q, fun _ => rfl, by simp, fun _ => by rw [← hP]; simp, by simp; omega, fun a => ⟨a, fun _ => .inl ⟨rfl, ?_⟩⟩, fun q => ?_⟩, fun _ => rfl⟩
  · obtain ⟨v, hv⟩ := Option.isSome_iff_exists.1 a
    have hx : (key, v) ∈ chainOf T0 M (bucket M key) := mem_chainOf.2 ⟨pget_mem hv, bucket_eq hM key⟩
    rw [← hP] at hx
    obtain ⟨y, hy, e⟩ := List.mem_map.1 hx
    exact ⟨y, hy, by rw [e, hv]; rfl⟩
  · cases hg : aget T0 key with
    | none => rfl
    | some u => rw [hg] at q; simp at q

theorem chain_len (T : List Pair) (M : Nat) (hM : 1 ≤ M) (key : ByteArray) : (chainOf T M (bucket M key)).length = inT T M (hashOf key % M) := by
  unfold chainOf inT
  rw [List.length_reverse, List.countP_eq_length_filter]
  congr 1
  apply List.filter_congr
  intro x _
  unfold inChain
  rw [← bucket_eq hM key]

theorem chain_key {T : List Pair} {M i : Nat} (hn : (T.map Prod.fst).Nodup) : ∀ x ∈ chainOf T M i, x.1 = key → aget T key = some x.2 := by
  intro x hx hk
  have := (mem_chainOf.1 hx).1
  exact pget_of_mem hn (by rw [← hk]; exact this)

theorem stepL_mem (key : ByteArray) (V : LookV) (P : List (Nat × Pair)) : ∀ x ∈ (stepL key V P).2, x ∈ P := by
  intro x hx
  rcases stepL_cases key V P with ⟨rfl, e⟩ | ⟨y, r, rfl, _, e⟩ | ⟨y, r, rfl, _, e⟩
  · rw [e] at hx; exact hx
  · rw [e] at hx; exact hx
  · rw [e] at hx; exact List.mem_cons_of_mem _ hx

theorem stepL_less {key : ByteArray} {V : LookV} {P : List (Nat × Pair)} {j n : Nat} (h : P.length + j ≤ n) : (stepL key V P).1.over = false → (stepL key V P).2.length + (j + 1) ≤ n := by
  intro q
  rcases stepL_cases key V P with ⟨rfl, e⟩ | ⟨y, r, rfl, _, e⟩ | ⟨y, r, rfl, _, e⟩
  · rw [e] at q; simp at q
  · rw [e] at q; simp at q
  · rw [e]; simp at h ⊢; omega

/-- At the look's end. -/
theorem Inv.fin {fd : Bool} {vv st : Int} (h : Inv key C0 T0 al nv ⟨true, fd, vv, st⟩ P T) {xs : List Int} (hx : ∀ v, aget T0 key = some v → xs[0]? = some v) :
    (fd = true ∧ nv = false ∧ ∃ v0, aget T0 key = some v0 ∧ vv = v0 ∧ xs[0]? = some v0) ∨ (fd = false ∧ al = false ∧ vv = 0) := by
  cases hf : fd with
  | true =>
    obtain ⟨a, b, _⟩ := h.fnd hf
    obtain ⟨v0, hv⟩ := Option.isSome_iff_exists.1 a
    refine .inl ⟨rfl, ?_, v0, hv, by simp only at b; rw [b, hv]; rfl, hx v0 hv⟩
    cases hn : nv with
    | false => rfl
    | true => have := h.nvr hn; rw [hv] at this; simp at this
  | false =>
    refine .inr ⟨rfl, ?_, h.nf hf⟩
    cases ha : al with
    | false => rfl
    | true =>
      rcases (h.alw ha).2 (h.same ha) with ⟨o, _⟩ | q
      · simp at o
      · simp only [hf] at q; simp at q

/-! ### in memory -/

structure LW (w0 wr : World) (tb rb m lb : Nat) (key : ByteArray) (S R : Nat → Prop) (T T2 : List Pair) (V : LookV) (P : List (Nat × Pair)) (v : Value) (xs : List Int) : Prop where
  keep : Keep w0 wr (fun _ => False)
  tab : TabAt wr tb S m T
  ref : RefAt wr rb R T2
  look : ∃ o, LookAt wr lb key o V ∧ Seg wr o P
  row : wr.ownsRow 0 2 1 v xs.length (xs.map (Value.int .i64))
  sr : ∀ b, S b → ¬ R b
  s0 : ∀ b, S b → w0.heap.size ≤ b
  r0 : ∀ b, R b → w0.heap.size ≤ b
  sz : ∀ x ∈ T2, x.1.size ≤ 9223372036854775807
  l : ¬ S lb ∧ ¬ R lb ∧ w0.heap.size ≤ lb
  p : ∀ x ∈ P, ¬ R x.1
  q : ∀ b, v.ownBlock = some b → ¬ S b ∧ ¬ R b ∧ b ≠ lb ∧ w0.heap.size ≤ b

section
variable {w0 wr w' : World} {tb rb m lb : Nat} {S R S' R' : Nat → Prop} {T2 T' : List Pair} {v : Value} {xs : List Int}

theorem LW.chain (h : LW w0 wr tb rb m lb key S R T T2 V P v xs) (ht : TabAt w' tb S' m T') (k : Turn wr S w' S') {P' : List (Nat × Pair)} {o : Option Nat} (hL : LookAt wr lb key o V) (hs : Seg w' o P') (hP' : ∀ x ∈ P', x ∈ P) : LW w0 w' tb rb m lb key S' R T' T2 V P' v xs := by
  have hll := lt_of_blk hL
  refine ⟨h.keep.trans k.keep (fun b q => .inr (h.s0 b q)), ht, h.ref.keep k.keep (fun b q z => h.sr b z q), ⟨o, k.keep.get hL h.l.1, hs⟩, rows_keep h.row k.keep (fun b q => (h.q b q).1), fun b q z => (k.new b q).elim (fun y => h.sr b y z) (fun y => by have := h.ref.lt b z; omega),
    fun b q => (k.new b q).elim (h.s0 b) (fun y => by have := h.keep.size; omega), h.r0, h.sz, ⟨fun q => (k.new _ q).elim h.l.1 (fun y => by omega), h.l.2⟩, fun x hx => h.p x (hP' x hx), fun b q => ⟨fun z => (k.new b z).elim (h.q b q).1 (fun y => ?_), (h.q b q).2⟩⟩
  rcases rows_val h.row with ⟨rfl, _⟩ | ⟨g, cap, rfl, _, h5, h6⟩
  · simp [Value.ownBlock] at q
  · rw [h5] at q; cases q; omega

theorem LW.refs (h : LW w0 wr tb rb m lb key S R T T2 V P v xs) (ht : RefAt w' rb R' T') (k : Turn wr R w' R') (hz : ∀ x ∈ T', x.1.size ≤ 9223372036854775807) : LW w0 w' tb rb m lb key S R' T T' V P v xs := by
  obtain ⟨o, hL, hSeg⟩ := h.look
  have hll := lt_of_blk hL
  refine ⟨h.keep.trans k.keep (fun b q => .inr (h.r0 b q)), h.tab.keep k.keep (fun b q z => h.sr b q z), ht, ⟨o, k.keep.get hL h.l.2.1, hSeg.keep k.keep h.p⟩, rows_keep h.row k.keep (fun b q => (h.q b q).2.1), fun b q z => (k.new b z).elim (fun y => h.sr b q y) (fun y => by have := h.tab.lt b q; omega),
    h.s0, fun b q => (k.new b q).elim (h.r0 b) (fun y => by have := h.keep.size; omega), hz, ⟨h.l.1, fun q => (k.new _ q).elim h.l.2.1 (fun y => by omega), h.l.2.2⟩, fun x hx z => (k.new _ z).elim (h.p x hx) (fun y => by have := hSeg.lt x hx; omega), fun b q => ⟨(h.q b q).1, fun z => (k.new b z).elim (h.q b q).2.1 (fun y => ?_), (h.q b q).2.2⟩⟩
  rcases rows_val h.row with ⟨rfl, _⟩ | ⟨g, cap, rfl, _, h5, h6⟩
  · simp [Value.ownBlock] at q
  · rw [h5] at q; cases q; omega

/-- What turns none of them. -/
theorem LW.aside (h : LW w0 wr tb rb m lb key S R T T2 V P v xs) (k : Keep wr w' (fun _ => False)) : LW w0 w' tb rb m lb key S R T T2 V P v xs := by
  obtain ⟨o, hL, hSeg⟩ := h.look
  exact ⟨h.keep.trans k (fun _ q => q.elim), h.tab.keep k (fun _ _ q => q), h.ref.keep k (fun _ _ q => q), ⟨o, k.get hL (fun q => q), hSeg.keep k (fun _ _ q => q)⟩, rows_keep h.row k (fun _ _ q => q), h.sr, h.s0, h.r0, h.sz, h.l, h.p, h.q⟩

theorem LW.drewN (h : LW w0 wr tb rb m lb key S R T T2 V P v xs) (q : Nat) : LW w0 (wr.drewN q) tb rb m lb key S R T T2 V P v xs := h.aside (Turn.drewN wr (fun _ => False) q).keep

theorem LW.step (h : LW w0 wr tb rb m lb key S R T T2 V P v xs) {o' : Option Nat} {V' : LookV} {P' : List (Nat × Pair)} (h1 : LookAt w' lb key o' V') (h2 : Seg w' o' P') (k : Keep wr w' (fun b => b = lb)) (hp : ∀ x ∈ P', x ∈ P) : LW w0 w' tb rb m lb key S R T T2 V' P' v xs :=
  ⟨h.keep.trans k (fun b q => .inr (by rw [show b = lb from q]; exact h.l.2.2)), h.tab.keep k (fun b q z => h.l.1 (by rw [← show b = lb from z]; exact q)), h.ref.keep k (fun b q z => h.l.2.1 (by rw [← show b = lb from z]; exact q)), ⟨o', h1, h2⟩, rows_keep h.row k (fun b q z => (h.q b q).2.2.1 z), h.sr, h.s0, h.r0, h.sz, h.l, fun x hx => h.p x (hp x hx), h.q⟩

theorem int_ne_link : 2 ≠ 66 := by decide

theorem own_apart {w : World} {e : TypeId} {n : Nat} {xs : List Value} (h : w.ownsRow 0 e 1 v n xs) {b : Nat} (q : v.ownBlock = some b) : ∃ cur, w.heap[b]? = some (.cells cur e (0, 0)) := by
  rcases h.2 with ⟨rfl, _⟩ | ⟨g, cap, cur, rfl, _, hb, _⟩
  · simp [Value.ownBlock] at q
  · simp [Value.ownBlock] at q
    subst q
    exact ⟨cur, hb⟩

theorem LW.noted (h : LW w0 wr tb rb m lb key S R T T2 V P v xs) {v' : Value} {ys : List Int} (ho : w'.ownsRow 0 2 1 v' ys.length (ys.map (Value.int .i64))) (k : Keep wr w' (fun b => some b = v.ownBlock)) (hq : ∀ b, v'.ownBlock = some b → v.ownBlock = some b ∨ wr.heap.size ≤ b) : LW w0 w' tb rb m lb key S R T T2 V P v' ys := by
  obtain ⟨o, hL, hSeg⟩ := h.look
  have hll := lt_of_blk hL
  refine ⟨h.keep.trans k (fun b q => .inr (h.q b q.symm).2.2.2), h.tab.keep k (fun b q z => (h.q b z.symm).1 q), h.ref.keep k (fun b q z => (h.q b z.symm).2.1 q), ⟨o, k.get hL (fun z => (h.q _ z.symm).2.2.1 rfl), hSeg.keep k (fun x hx z => ?_)⟩, ho, h.sr, h.s0, h.r0, h.sz, h.l, h.p, fun b q => (hq b q).elim (h.q b) (fun y => ⟨fun z => by have := h.tab.lt b z; omega, fun z => by have := h.ref.lt b z; omega, by omega, by have := h.keep.size; omega⟩)⟩
  obtain ⟨cur, hc⟩ := own_apart h.row z.symm
  obtain ⟨o2, hx2⟩ := hSeg.at x hx
  rw [hc] at hx2
  simp only [Option.some.injEq, Obj.cells.injEq] at hx2
  exact absurd hx2.2.1 int_ne_link

/-- The ask in a box of its own. -/
structure Box (wr : World) (S R : Nat → Prop) (lb xb : Nat) (k : Int) (s : ByteArray) (u : Int) : Prop where
  box : wr.heap[xb]? = some (.cells #[.int .i64 k, .string s, .int .i64 u] 31 (0, 0))
  s : ¬ S xb
  r : ¬ R xb
  l : xb ≠ lb

theorem Box.chain {xb : Nat} {k : Int} {s : ByteArray} {u : Int} (h : Box wr S R lb xb k s u) (t : Turn wr S w' S') : Box w' S' R lb xb k s u :=
  ⟨t.keep.get h.box h.s, fun q => (t.new _ q).elim h.s (fun y => by have := lt_of_blk h.box; omega), h.r, h.l⟩
theorem Box.refs {xb : Nat} {k : Int} {s : ByteArray} {u : Int} (h : Box wr S R lb xb k s u) (t : Turn wr R w' R') : Box w' S R' lb xb k s u :=
  ⟨t.keep.get h.box h.r, h.s, fun q => (t.new _ q).elim h.r (fun y => by have := lt_of_blk h.box; omega), h.l⟩
theorem Box.aside {xb : Nat} {k : Int} {s : ByteArray} {u : Int} (h : Box wr S R lb xb k s u) (t : Keep wr w' (fun _ => False)) : Box w' S R lb xb k s u :=
  ⟨t.get h.box (fun q => q), h.s, h.r, h.l⟩
theorem Box.step {xb : Nat} {k : Int} {s : ByteArray} {u : Int} (h : Box wr S R lb xb k s u) (t : Keep wr w' (fun b => b = lb)) : Box w' S R lb xb k s u :=
  ⟨t.get h.box h.l, h.s, h.r, h.l⟩
end

end Go.Proofs.Ytkdpkmlmkholmaa
