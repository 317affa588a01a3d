/-
  A call that came in; the tables that a row lists.
-/
import Derived.Test.YtdbkkfhneafeiaaDoorCKnown
import Derived.Test.YtdbkkfhneafeiaaDoorArgs
import Derived.Lib.LaidU8
namespace Go.Proofs.YtdbkkfhneafeiaaDoor
open Go Go.RowKit Go.ChangeShapes Go.WideShapes Go.Deep
set_option linter.unusedSectionVars false
set_option linter.unusedSimpArgs false
set_option linter.unusedVariables false
set_option maxRecDepth 100000

theorem tabIs_reads {P : Program} {W : World} {name : String} {k : IntKind} {zs : List Int} {g : Nat} {t e : TypeId} {n : Nat}
    (hg : P.globalNamed name = some g) (hty : (P.globals[g]?).map (·.type) = some t) (ht : P.underlying t = some (.array n e)) (he : P.underlying e = some (.int k)) (hce : P.cellsOf e = 1) (hct : P.cellsOf t = n)
    (h : Lib.VarReads P W name (Lib.tabData k zs)) : Lib.TabIs P W name k zs := by
  obtain ⟨g', t', cs, fuel, p, hg', ht', hvar, hd⟩ := h
  obtain rfl := Option.some.inj (hg.symm.trans hg')
  obtain rfl := Option.some.inj (hty.symm.trans ht')
  unfold Lib.TabIs
  rw [hvar, ← Lib.cells_of_tab ht he hce hct hd]

theorem addr_plain {w : World} {x : Addr} {u : Value} (h : w.cell? (x.add 0) = some u) : ∃ b off, x = ⟨b, off, none⟩ ∧ b < w.heap.size ∧ ∀ i, x.add i = ⟨b, off + i, none⟩ := by
  obtain ⟨b, off, sp⟩ := x
  have hsp : sp = none := by
    cases sp with
    | none => rfl
    | some q =>
      simp only [Addr.add, if_true] at h
      unfold World.cell? at h
      split at h <;> simp at h
  subst hsp
  refine ⟨b, off, rfl, ?_, fun i => ?_⟩
  · have := World.block_lt_of_cell? w _ h
    simpa [Addr.add] using this
  · unfold Addr.add
    split
    · rename_i h0; subst h0; rfl
    · rfl

theorem bsr_of_row {w : World} {a : Option Addr} {len cap : Nat} {zs : List Int} (h : RowIs w a len cap zs) : ∃ l : Bs, l.length = len ∧ len ≤ maxLen ∧ BSr w (.slice a len cap) l := by
  rcases h with ⟨rfl, rfl, rfl, _⟩ | ⟨x, rfl, h1, h2, h3, h4, h5⟩
  · exact ⟨[], rfl, Nat.zero_le _, .inl (BSl.nil w)⟩
  · by_cases h0 : len = 0
    · subst h0
      exact ⟨[], rfl, Nat.zero_le _, .inr ⟨rfl, x, cap, rfl, h2⟩⟩
    · obtain ⟨b, off, rfl, hb, ha⟩ := addr_plain (h4 0 (by omega))
      have hl : ((zs.take len).map fun z => UInt8.ofNat z.toNat).length = len := by rw [List.length_map, List.length_take]; omega
      refine ⟨(zs.take len).map fun z => UInt8.ofNat z.toNat, hl, by omega, .inl (.inr ⟨b, off, cap, by rw [hl], by rw [hl]; exact h1, h2, hb, fun i u hi => ?_⟩)⟩
      rw [List.getElem?_map] at hi
      cases hz : (zs.take len)[i]? with
      | none => rw [hz] at hi; simp at hi
      | some z =>
        rw [hz] at hi
        simp at hi
        subst hi
        have h6 := take_get hz
        obtain ⟨h7, h8⟩ := List.getElem?_eq_some_iff.1 h6
        have h9 := h4 i h7
        rw [ha] at h9
        have hbd := bounds_u8 (h5 z (List.mem_of_getElem? h6))
        rw [h9, List.getD_eq_getElem?_getD, h6]
        unfold u8V
        simp only [Option.getD_some]
        congr 2
        simp
        omega

section
variable {H : Type} {enc : TypeId × Value → H} {P : Program} {w : World} {base : Nat} {held : Bool}

theorem bytes_open {t e : TypeId} {fuel : Nat} {v : Value} {x : DataW H × List MemPlace} (ht : P.underlying t = some (.slice e)) (he : P.underlying e = some (.int .u8)) (hc : P.cellsOf e = 1)
    (h : DataW.trod enc P w base (fun _ => true) held fuel t [v] = some x) : ∃ a l cap, v = .slice a (List.length (l : Bs)) cap ∧ l.length ≤ 9223372036854775807 ∧ BSr w v l := by
  rcases open_ints ht he hc h with ⟨hcs, _⟩ | ⟨y, l, c, zs, hcs, _, hl, hm, hz, _, hcell, hwz⟩
  · simp at hcs
    subst hcs
    exact ⟨none, [], 0, rfl, by simp, .inl (BSl.nil w)⟩
  · simp at hcs
    subst hcs
    obtain ⟨l', h1, h2, h3⟩ := bsr_of_row (w := w) (a := some y) (len := l) (cap := c) (zs := zs) (.inr ⟨y, rfl, hl, hm, by simpa using hz, hcell, hwz⟩)
    exact ⟨some y, l', c, by rw [h1], by rw [h1]; exact h2, h3⟩

set_option maxHeartbeats 4000000 in
theorem call_open {cs : List Value} {fuel : Nat} {x : DataW H × List MemPlace} (hl : cs.length = 9) (h : DataW.trod enc Tryd.prog w base (fun _ => true) held fuel 24 cs = some x) : ∃ (c : CallV) (a : Option Addr) (cap : Nat), cs = callC c (.slice a c.data.length cap) ∧
    (BSr w (.slice a c.data.length cap) c.data ∧ (c.path.size ≤ 9223372036854775807 ∧ c.to.size ≤ 9223372036854775807 ∧ c.data.length ≤ 9223372036854775807) ∧ ∀ x : Fin 5, -9223372036854775808 ≤ c.num x.val ∧ c.num x.val ≤ 9223372036854775807) := by
  have s3 : Tryd.prog.cellsOf 3 = 1 := by kernel_rfl
  have s9 : Tryd.prog.cellsOf 9 = 1 := by kernel_rfl
  have s22 : Tryd.prog.cellsOf 22 = 1 := by kernel_rfl
  have s5 : Tryd.prog.cellsOf 5 = 1 := by kernel_rfl
  match cs, hl with
  | [c3, c4, c5, c6, c7, c8, c9, c10, c11], _ =>
    obtain ⟨zs, n2, _, _, _, hzl, hg⟩ := DataW.trod_struct Tryd.underlying24 h
    have hz9 : zs.length = 9 := hzl
    match zs, hz9 with
    | [z0, z1, z2, z3, z4, z5, z6, z7, z8], _ =>
      have g0 := hg 0 _ rfl
      have g1 := hg 1 _ rfl
      have g2 := hg 2 _ rfl
      have g3 := hg 3 _ rfl
      have g4 := hg 4 _ rfl
      have g5 := hg 5 _ rfl
      have g6 := hg 6 _ rfl
      have g7 := hg 7 _ rfl
      have g8 := hg 8 _ rfl
      simp only [s3, s9, s22, List.drop_zero, List.drop_succ_cons, List.take_succ_cons, List.take_zero, List.getElem?_cons_zero, List.getElem?_cons_succ] at g0 g1 g2 g3 g4 g5 g6 g7 g8
      obtain ⟨m0, d0, _, _⟩ := DataW.trod_int Tryd.underlying3 g0
      obtain ⟨m1, d1, _, l1⟩ := DataW.trod_string Tryd.underlying9 g1
      obtain ⟨m2, d2, _, l2⟩ := DataW.trod_string Tryd.underlying9 g2
      obtain ⟨m3, d3, _, l3⟩ := DataW.trod_int Tryd.underlying3 g3
      obtain ⟨m4, d4, _, l4⟩ := DataW.trod_int Tryd.underlying3 g4
      obtain ⟨m5, d5, _, l5⟩ := DataW.trod_int Tryd.underlying3 g5
      obtain ⟨m6, d6, _, l6⟩ := DataW.trod_int Tryd.underlying3 g6
      obtain ⟨m7, d7, _, l7⟩ := DataW.trod_int Tryd.underlying3 g7
      obtain ⟨a8, b8, cap8, d8, l8, B8⟩ := bytes_open Tryd.underlying22 Tryd.underlying5 s5 g8
      cases d0; cases d1; cases d2; cases d3; cases d4; cases d5; cases d6; cases d7; subst d8
      refine ⟨⟨m0, m1, m2, m3, m4, m5, m6, m7, b8⟩, a8, cap8, rfl, B8, ⟨l1, l2, l8⟩, fun x => ?_⟩
      have key : ∀ z : Int, (Lit.int .i64 z).wf = true → -9223372036854775808 ≤ z ∧ z ≤ 9223372036854775807 := fun z hz => by
        exact bounds_i64 hz
      obtain ⟨x, hx⟩ := x
      rcases (show x = 0 ∨ x = 1 ∨ x = 2 ∨ x = 3 ∨ x = 4 by omega) with rfl | rfl | rfl | rfl | rfl
      · exact key _ l3
      · exact key _ l4
      · exact key _ l5
      · exact key _ l6
      · exact key _ l7

end

end Go.Proofs.YtdbkkfhneafeiaaDoor
