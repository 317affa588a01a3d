/-
  A slice of items that came in.
-/
import Derived.Test.YtmokbgihpfnmbaaSKnown
import Derived.Test.YtmokbgihpfnmbaaArgs
namespace Go.Proofs.Ytmokbgihpfnmbaa
open Go Go.RowKit Go.ChangeShapes Go.WideShapes Go.Deep
set_option linter.unusedSectionVars false
set_option linter.unusedSimpArgs false
set_option linter.unusedVariables false

theorem addr_plain {w : World} {x : Addr} {u : Value} (h : w.cell? (x.add 0) = some u) : ∃ b off, x = ⟨b, off, none⟩ ∧ b < w.heap.size ∧ ∀ i, x.add i = ⟨b, off + i, none⟩ := by
  obtain ⟨b, off, sp⟩ := x
  have hsp : sp = none := by
    cases sp with
    | none => rfl
    | some q =>
      simp only [Addr.add, if_true] at h
      unfold World.cell? at h
      split at h <;> simp at h
  subst hsp
  refine ⟨b, off, rfl, ?_, fun i => ?_⟩
  · have := World.block_lt_of_cell? w _ h
    simpa [Addr.add] using this
  · unfold Addr.add
    split
    · rename_i h0; subst h0; rfl
    · rfl

theorem bsr_of_row {w : World} {a : Option Addr} {len cap : Nat} {zs : List Int} (h : RowIs w a len cap zs) : ∃ l : Bs, l.length = len ∧ len ≤ maxLen ∧ BSr w (.slice a len cap) l := by
  rcases h with ⟨rfl, rfl, rfl, _⟩ | ⟨x, rfl, h1, h2, h3, h4, h5⟩
  · exact ⟨[], rfl, Nat.zero_le _, .inl (BSl.nil w)⟩
  · by_cases h0 : len = 0
    · subst h0
      exact ⟨[], rfl, Nat.zero_le _, .inr ⟨rfl, x, cap, rfl, h2⟩⟩
    · obtain ⟨b, off, rfl, hb, ha⟩ := addr_plain (h4 0 (by omega))
      have hl : ((zs.take len).map fun z => UInt8.ofNat z.toNat).length = len := by rw [List.length_map, List.length_take]; omega
      refine ⟨(zs.take len).map fun z => UInt8.ofNat z.toNat, hl, by omega, .inl (.inr ⟨b, off, cap, by rw [hl], by rw [hl]; exact h1, h2, hb, fun i u hi => ?_⟩)⟩
      rw [List.getElem?_map] at hi
      cases hz : (zs.take len)[i]? with
      | none => rw [hz] at hi; simp at hi
      | some z =>
        rw [hz] at hi
        simp at hi
        subst hi
        have h6 := take_get hz
        obtain ⟨h7, h8⟩ := List.getElem?_eq_some_iff.1 h6
        have h9 := h4 i h7
        rw [ha] at h9
        have hbd := bounds_u8 (h5 z (List.mem_of_getElem? h6))
        rw [h9, List.getD_eq_getElem?_getD, h6]
        unfold u8V
        simp only [Option.getD_some]
        congr 2
        simp
        omega

theorem choose_list {α : Type} (P : Nat → α → Prop) : ∀ n, (∀ i, i < n → ∃ x, P i x) → ∃ xs : List α, xs.length = n ∧ ∀ i x, xs[i]? = some x → P i x := by
  intro n
  induction n with
  | zero => intro _; exact ⟨[], rfl, fun i x h => by simp at h⟩
  | succ n ih =>
    intro h
    obtain ⟨xs, h1, h2⟩ := ih (fun i hi => h i (by omega))
    obtain ⟨y, hy⟩ := h n (by omega)
    refine ⟨xs ++ [y], by simp [h1], fun i x hx => ?_⟩
    by_cases hi : i < xs.length
    · rw [List.getElem?_append_left hi] at hx
      exact h2 i x hx
    · rw [List.getElem?_append_right (by omega)] at hx
      have : i - xs.length = 0 := by
        rcases Nat.eq_zero_or_pos (i - xs.length) with q | q
        · exact q
        · rw [List.getElem?_eq_none (by simp; omega)] at hx; simp at hx
      rw [this] at hx
      simp at hx
      subst hx
      rw [show i = n by omega]
      exact hy

theorem flat_inv {α : Type} (f : α → List Value) (sz : Nat) (hs : 0 < sz) (hf : ∀ x, (f x).length = sz) {l : List α} {i : Nat} {u : Value} (h : (flat f l)[i]? = some u) : ∃ q r x, i = q * sz + r ∧ r < sz ∧ l[q]? = some x ∧ (f x)[r]? = some u := by
  have hi := (List.getElem?_eq_some_iff.1 h).1
  rw [flat_len f sz hf] at hi
  have hq : i / sz < l.length := Nat.div_lt_of_lt_mul (by rw [Nat.mul_comm]; exact hi)
  have hx : l[i / sz]? = some l[i / sz] := List.getElem?_eq_getElem hq
  have hr : i % sz < sz := Nat.mod_lt _ hs
  have e : i = i / sz * sz + i % sz := by rw [Nat.mul_comm]; exact (Nat.div_add_mod i sz).symm
  refine ⟨i / sz, i % sz, _, e, hr, hx, ?_⟩
  rw [← flat_get f sz hf hx hr, ← e]
  exact h

section
variable {H : Type} {enc : TypeId × Value → H} {P : Program} {w : World} {base : Nat} {held : Bool}

theorem bytes_open {t e : TypeId} {fuel : Nat} {v : Value} {x : DataW H × List MemPlace} (ht : P.underlying t = some (.slice e)) (he : P.underlying e = some (.int .u8)) (hc : P.cellsOf e = 1)
    (h : DataW.trod enc P w base (fun _ => true) held fuel t [v] = some x) : ∃ a l cap, v = .slice a (List.length (l : Bs)) cap ∧ l.length ≤ 9223372036854775807 ∧ BSr w v l := by
  rcases open_ints ht he hc h with ⟨hcs, _⟩ | ⟨y, l, c, zs, hcs, _, hl, hm, hz, _, hcell, hwz⟩
  · simp at hcs
    subst hcs
    exact ⟨none, [], 0, rfl, by simp, .inl (BSl.nil w)⟩
  · simp at hcs
    subst hcs
    obtain ⟨l', h1, h2, h3⟩ := bsr_of_row (w := w) (a := some y) (len := l) (cap := c) (zs := zs) (.inr ⟨y, rfl, hl, hm, by simpa using hz, hcell, hwz⟩)
    exact ⟨some y, l', c, by rw [h1], by rw [h1]; exact h2, h3⟩

set_option maxHeartbeats 4000000 in
theorem item_open {cs : List Value} {fuel : Nat} {x : DataW H × List MemPlace} (hl : cs.length = 12) (h : DataW.trod enc Try.prog w base (fun _ => true) held fuel 39 cs = some x) : ∃ y : ItemD, cs = pairC y ∧ GoodD w y ∧ Lens y.1 := by
  have s3 : Try.prog.cellsOf 3 = 1 := by kernel_rfl
  have s9 : Try.prog.cellsOf 9 = 1 := by kernel_rfl
  have s22 : Try.prog.cellsOf 22 = 1 := by kernel_rfl
  have s37 : Try.prog.cellsOf 37 = 9 := by kernel_rfl
  have s5 : Try.prog.cellsOf 5 = 1 := by kernel_rfl
  match cs, hl with
  | [c0, c1, c2, c3, c4, c5, c6, c7, c8, c9, c10, c11], _ =>
    obtain ⟨ys, n1, _, _, _, hyl, hf⟩ := DataW.trod_struct Try.underlying39 h
    have hy4 : ys.length = 4 := hyl
    match ys, hy4 with
    | [y0, y1, y2, y3], _ =>
      have f0 := hf 0 _ rfl
      have f1 := hf 1 _ rfl
      have f2 := hf 2 _ rfl
      have f3 := hf 3 _ rfl
      simp only [s3, s37, List.drop_zero, List.drop_succ_cons, List.take_succ_cons, List.take_zero, List.getElem?_cons_zero, List.getElem?_cons_succ] at f0 f1 f2 f3
      obtain ⟨k0, e0, _, _⟩ := DataW.trod_int Try.underlying3 f0
      obtain ⟨k1, e1, _, _⟩ := DataW.trod_int Try.underlying3 f1
      obtain ⟨k2, e2, _, _⟩ := DataW.trod_int Try.underlying3 f2
      obtain ⟨zs, n2, _, _, _, hzl, hg⟩ := DataW.trod_struct Try.underlying37 f3
      have hz9 : zs.length = 9 := hzl
      match zs, hz9 with
      | [z0, z1, z2, z3, z4, z5, z6, z7, z8], _ =>
        have g0 := hg 0 _ rfl
        have g1 := hg 1 _ rfl
        have g2 := hg 2 _ rfl
        have g3 := hg 3 _ rfl
        have g4 := hg 4 _ rfl
        have g5 := hg 5 _ rfl
        have g6 := hg 6 _ rfl
        have g7 := hg 7 _ rfl
        have g8 := hg 8 _ rfl
        simp only [s3, s9, s22, List.drop_zero, List.drop_succ_cons, List.take_succ_cons, List.take_zero, List.getElem?_cons_zero, List.getElem?_cons_succ] at g0 g1 g2 g3 g4 g5 g6 g7 g8
        obtain ⟨m0, d0, _, _⟩ := DataW.trod_int Try.underlying3 g0
        obtain ⟨m1, d1, _, l1⟩ := DataW.trod_string Try.underlying9 g1
        obtain ⟨m2, d2, _, l2⟩ := DataW.trod_string Try.underlying9 g2
        obtain ⟨m3, d3, _, _⟩ := DataW.trod_int Try.underlying3 g3
        obtain ⟨m4, d4, _, _⟩ := DataW.trod_int Try.underlying3 g4
        obtain ⟨m5, d5, _, _⟩ := DataW.trod_int Try.underlying3 g5
        obtain ⟨m6, d6, _, _⟩ := DataW.trod_int Try.underlying3 g6
        obtain ⟨m7, d7, _, _⟩ := DataW.trod_int Try.underlying3 g7
        obtain ⟨a8, b8, cap8, d8, l8, B8⟩ := bytes_open Try.underlying22 Try.underlying5 s5 g8
        cases e0; cases e1; cases e2; cases d0; cases d1; cases d2; cases d3; cases d4; cases d5; cases d6; cases d7; subst d8
        exact ⟨(⟨k0, k1, k2, ⟨m0, m1, m2, m3, m4, m5, m6, m7, b8⟩⟩, .slice a8 b8.length cap8), rfl, ⟨⟨a8, cap8, rfl⟩, B8⟩, l1, l2, l8⟩

theorem items_open {fuel : Nat} {a : Option Addr} {len cap : Nat} {x : DataW H × List MemPlace} (h : DataW.trod enc Try.prog w base (fun _ => true) held fuel 23 [.slice a len cap] = some x) :
    ∃ L, ItemsIn w (.slice a len cap) L ∧ L.length = len ∧ ∀ i ∈ L, Lens i := by
  have s12 : Try.prog.cellsOf 39 = 12 := by kernel_rfl
  rcases open_slice Try.underlying23 h with ⟨hcs, _⟩ | ⟨ad, len', cap', m, n, D, Pl, hcs, hb, hl, hm, hmm, hx, hi⟩
  · simp at hcs
    obtain ⟨rfl, rfl, rfl⟩ := hcs
    exact ⟨[], ⟨[], rfl, by simp, none, 0, rfl, Nat.le_refl _, Nat.zero_le _, .inl rfl⟩, rfl, by simp⟩
  · simp at hcs
    obtain ⟨rfl, rfl, rfl⟩ := hcs
    rw [s12] at hi
    have hel : ∀ i, i < len → ∃ y : ItemD, (∀ j u, (pairC y)[j]? = some u → w.cell? (ad.add (i * 12 + j)) = some u) ∧ GoodD w y ∧ Lens y.1 := fun i hil => by
      obtain ⟨cs', hc, ht'⟩ := hi i (by rw [hmm]; simp; omega)
      obtain ⟨_, hcl, hat⟩ := World.cells?_some hc
      obtain ⟨y, rfl, h1, h2⟩ := item_open hcl ht'
      refine ⟨y, fun j u hj => ?_, h1, h2⟩
      have hj12 : j < 12 := (List.getElem?_eq_some_iff.1 hj).1
      rw [← Go.Deep.add_add, hat j hj12, hj]
    obtain ⟨xs, hxl, hxs⟩ := choose_list _ len hel
    have hall : ∀ i u, (flat pairC xs)[i]? = some u → w.cell? (ad.add i) = some u := fun i u hiu => by
      obtain ⟨q, r, y, rfl, hr, hq, hru⟩ := flat_inv pairC 12 (by decide) pairC_len hiu
      exact (hxs q y hq).1 r u hru
    refine ⟨xs.map Prod.fst, ⟨xs, rfl, fun y hy => ?_, some ad, cap, by rw [List.length_map, hxl], by rw [List.length_map, hxl]; exact hl, hm, ?_⟩, by rw [List.length_map, hxl], fun i hii => ?_⟩
    · obtain ⟨k, hk⟩ := List.mem_iff_getElem?.1 hy
      exact (hxs k y hk).2.1
    · by_cases h0 : len = 0
      · left
        rw [h0] at hxl
        rw [List.eq_nil_of_length_eq_zero hxl]; rfl
      · right
        obtain ⟨y, hy⟩ : ∃ y, xs[0]? = some y := ⟨_, List.getElem?_eq_getElem (by omega)⟩
        obtain ⟨b, off, rfl, hb', ha⟩ := addr_plain ((hxs 0 y hy).1 0 _ rfl)
        exact ⟨b, off, rfl, hb', fun i u hiu => by rw [← ha]; exact hall i u hiu⟩
    · obtain ⟨y, hy, rfl⟩ := List.mem_map.1 hii
      obtain ⟨k, hk⟩ := List.mem_iff_getElem?.1 hy
      exact (hxs k y hk).2.2

end

end Go.Proofs.Ytmokbgihpfnmbaa
