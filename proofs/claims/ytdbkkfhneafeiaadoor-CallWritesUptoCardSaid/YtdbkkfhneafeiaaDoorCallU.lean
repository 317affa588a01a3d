/-
  Calls and results that came in, where what is read is of bulk at most 1048576; CallWrites' row.
-/
import Derived.Test.YtdbkkfhneafeiaaDoorRows
import Derived.Test.YtdbkkfhneafeiaaDoorCallWrites
import Derived.SliceStrings
namespace Go.Proofs.YtdbkkfhneafeiaaDoor
open Go Go.RowKit Go.ChangeShapes Go.WideShapes Go.Deep
set_option linter.unusedSectionVars false
set_option linter.unusedSimpArgs false
set_option linter.unusedVariables false
set_option maxRecDepth 100000

structure ResV where
  why : Int
  n : Int
  data : Bs
  names : List Bs
  s0 : Int
  s1 : Int
  s2 : Int
  s3 : Int
  s4 : Int
  s5 : Int
  s6 : Int

def resC (r : ResV) (dv nv : Value) : List Value := [.int .i64 r.why, .int .i64 r.n, dv, nv, .int .i64 r.s0, .int .i64 r.s1, .int .i64 r.s2, .int .i64 r.s3, .int .i64 r.s4, .int .i64 r.s5, .int .i64 r.s6]

def CallIn (W : World) (c : CallV) (a : Option Addr) (cap : Nat) : Prop :=
  BSr W (.slice a c.data.length cap) c.data ∧ (c.path.size ≤ 100000000 ∧ c.to.size ≤ 100000000 ∧ c.data.length ≤ 100000000) ∧ ∀ x : Fin 5, -9223372036854775808 ≤ c.num x.val ∧ c.num x.val ≤ 9223372036854775807
def ResIn (W : World) (r : ResV) (ad : Option Addr) (capd : Nat) (an : Option Addr) (capn : Nat) : Prop :=
  BSr W (.slice ad r.data.length capd) r.data ∧ r.data.length ≤ 100000000 ∧ ListIn W (.slice an r.names.length capn) (r.names.map stV) ∧ r.names.length ≤ 2000000 ∧ sumL r.names ≤ 100000000 ∧ ∀ z ∈ [r.why, r.n, r.s0, r.s1, r.s2, r.s3, r.s4, r.s5, r.s6], -9223372036854775808 ≤ z ∧ z ≤ 9223372036854775807

theorem cwrites_row (c : CallV) (a : Option Addr) (cap : Nat) (r : ResV) (ad : Option Addr) (capd : Nat) (an : Option Addr) (capn : Nat) (W : World) (ht : Tabs W) (h0 : CallIn W c a cap) (h1 : ResIn W r ad capd an capn) :
    Calls Tryd.prog 6 #[.agg (callC c (.slice a c.data.length cap)).toArray, .agg (resC r (.slice ad r.data.length capd) (.slice an r.names.length capn)).toArray] W fun r w' => r = .returned (.bool true) ∧ Below W.heap.size W w' :=
  cwrites_walk c.op c.path c.to c.fd c.flags c.mode c.n c.m c.data a cap r.why r.n r.data r.names r.s0 r.s1 r.s2 r.s3 r.s4 r.s5 r.s6 ad an capd capn W ht h0 h1

section
variable {H : Type} {enc : TypeId × Value → H} {P : Program} {w : World} {base : Nat} {held : Bool}

theorem bulk_part {d : DataW H} {l : List (DataW H)} (h : d ∈ l) : Rows.uptoBulk d ≤ Rows.uptoBulkAll l := by
  induction l with
  | nil => cases h
  | cons x r ih =>
    simp only [Rows.uptoBulkAll]
    cases List.mem_cons.1 h with
    | inl e => subst e; omega
    | inr e => have := ih e; omega

theorem bulk_lits (k : IntKind) (l : List Int) : Rows.uptoBulkAll (lits k l : List (DataW H)) = l.length := by
  induction l with
  | nil => rfl
  | cons x r ih =>
    show Rows.uptoBulk (.lit (.int k x)) + Rows.uptoBulkAll (lits k r) = _
    rw [ih]
    simp [Rows.uptoBulk]
    omega

theorem bulk_strs (l : List ByteArray) : Rows.uptoBulkAll (strs l : List (DataW H)) = sumL (l.map bsOf) + l.length := by
  induction l with
  | nil => rfl
  | cons x r ih =>
    show Rows.uptoBulk (.lit (.string x.data.toList)) + Rows.uptoBulkAll (strs r) = _
    rw [ih]
    simp [Rows.uptoBulk, sumL, bsOf]
    omega

theorem bytes_openU {t e : TypeId} {fuel : Nat} {v : Value} {x : DataW H × List MemPlace} (ht : P.underlying t = some (.slice e)) (he : P.underlying e = some (.int .u8)) (hc : P.cellsOf e = 1)
    (h : DataW.trod enc P w base (fun _ => true) held fuel t [v] = some x) : ∃ a l cap, v = .slice a (List.length (l : Bs)) cap ∧ l.length ≤ Rows.uptoBulk x.1 ∧ BSr w v l := by
  rcases open_ints ht he hc h with ⟨hcs, _⟩ | ⟨y, l, c, zs, hcs, _, hl, hm, hz, hx, hcell, hwz⟩
  · simp at hcs
    subst hcs
    exact ⟨none, [], 0, rfl, by simp, .inl (BSl.nil w)⟩
  · simp at hcs
    subst hcs
    simp only [if_true] at hz
    obtain ⟨l', h1, h2, h3⟩ := bsr_of_row (w := w) (a := some y) (len := l) (cap := c) (zs := zs) (.inr ⟨y, rfl, hl, hm, hz, hcell, hwz⟩)
    refine ⟨some y, l', c, by rw [h1], ?_, h3⟩
    rw [hx]
    simp only [Rows.uptoBulk, bulk_lits, List.length_take]
    omega

theorem strs_openU {t e : TypeId} {fuel : Nat} {v : Value} {x : DataW H × List MemPlace} (ht : P.underlying t = some (.slice e)) (he : P.underlying e = some .string) (hc : P.cellsOf e = 1)
    (h : DataW.trod enc P w base (fun _ => true) held fuel t [v] = some x) : ∃ a ns cap, v = .slice a (List.length (ns : List Bs)) cap ∧ ns.length + sumL ns ≤ Rows.uptoBulk x.1 ∧ ListIn w v (ns.map stV) := by
  rcases open_strings ht he hc h with ⟨hcs, _⟩ | ⟨y, l, c, ss, hcs, _, hl, hm, hz, hx, hcell, hwz⟩
  · simp at hcs
    subst hcs
    exact ⟨none, [], 0, rfl, by simp [sumL], ⟨none, 0, rfl, .inl rfl⟩⟩
  · simp at hcs
    subst hcs
    simp only [if_true] at hz
    have hlen : (ss.take l).length = l := by rw [List.length_take]; omega
    refine ⟨some y, (ss.take l).map bsOf, c, by rw [List.length_map, hlen], ?_, ?_⟩
    · rw [hx]
      simp only [Rows.uptoBulk, bulk_strs, List.length_map]
      omega
    · refine listIn_of (by rw [List.length_map, List.length_map, hlen]) (fun i u hi => ?_)
      rw [List.map_map, List.getElem?_map] at hi
      cases hx : (ss.take l)[i]? with
      | none => rw [hx] at hi; simp at hi
      | some z =>
        rw [hx] at hi
        simp at hi
        subst hi
        have h6 := take_get hx
        obtain ⟨h7, h8⟩ := List.getElem?_eq_some_iff.1 h6
        have h9 := hcell i h7
        rw [List.getD_eq_getElem?_getD, h6] at h9
        exact h9

set_option maxHeartbeats 4000000 in
theorem call_openU {cs : List Value} {fuel : Nat} {x : DataW H × List MemPlace} (hl : cs.length = 9) (h : DataW.trod enc Tryd.prog w base (fun _ => true) held fuel 24 cs = some x) (hb : Rows.uptoBulk x.1 ≤ 1048576) : ∃ (c : CallV) (a : Option Addr) (cap : Nat), cs = callC c (.slice a c.data.length cap) ∧ CallIn w c a cap := by
  have s3 : Tryd.prog.cellsOf 3 = 1 := by kernel_rfl
  have s9 : Tryd.prog.cellsOf 9 = 1 := by kernel_rfl
  have s22 : Tryd.prog.cellsOf 22 = 1 := by kernel_rfl
  have s5 : Tryd.prog.cellsOf 5 = 1 := by kernel_rfl
  match cs, hl with
  | [c3, c4, c5, c6, c7, c8, c9, c10, c11], _ =>
    obtain ⟨zs, n2, _, hxx, _, hzl, hg⟩ := DataW.trod_struct Tryd.underlying24 h
    have hz9 : zs.length = 9 := hzl
    match zs, hz9 with
    | [z0, z1, z2, z3, z4, z5, z6, z7, z8], _ =>
      have g0 := hg 0 _ rfl
      have g1 := hg 1 _ rfl
      have g2 := hg 2 _ rfl
      have g3 := hg 3 _ rfl
      have g4 := hg 4 _ rfl
      have g5 := hg 5 _ rfl
      have g6 := hg 6 _ rfl
      have g7 := hg 7 _ rfl
      have g8 := hg 8 _ rfl
      simp only [s3, s9, s22, List.drop_zero, List.drop_succ_cons, List.take_succ_cons, List.take_zero, List.getElem?_cons_zero, List.getElem?_cons_succ] at g0 g1 g2 g3 g4 g5 g6 g7 g8
      obtain ⟨m0, d0, _, _⟩ := DataW.trod_int Tryd.underlying3 g0
      obtain ⟨m1, d1, x1, l1⟩ := DataW.trod_string Tryd.underlying9 g1
      obtain ⟨m2, d2, x2, l2⟩ := DataW.trod_string Tryd.underlying9 g2
      obtain ⟨m3, d3, _, l3⟩ := DataW.trod_int Tryd.underlying3 g3
      obtain ⟨m4, d4, _, l4⟩ := DataW.trod_int Tryd.underlying3 g4
      obtain ⟨m5, d5, _, l5⟩ := DataW.trod_int Tryd.underlying3 g5
      obtain ⟨m6, d6, _, l6⟩ := DataW.trod_int Tryd.underlying3 g6
      obtain ⟨m7, d7, _, l7⟩ := DataW.trod_int Tryd.underlying3 g7
      obtain ⟨a8, b8, cap8, d8, l8, B8⟩ := bytes_openU Tryd.underlying22 Tryd.underlying5 s5 g8
      have hbb : Rows.uptoBulk z1.1 ≤ 1048576 ∧ Rows.uptoBulk z2.1 ≤ 1048576 ∧ Rows.uptoBulk z8.1 ≤ 1048576 := by
        rw [hxx] at hb
        simp only [Rows.uptoBulk, Rows.uptoBulkAll, List.map_cons, List.map_nil] at hb
        omega
      obtain ⟨hb1, hb2, hb8⟩ := hbb
      have e1 : m1.size ≤ 1048576 := by
        rw [x1] at hb1
        simp only [Rows.uptoBulk] at hb1
        have : m1.data.toList.length = m1.size := rfl
        omega
      have e2 : m2.size ≤ 1048576 := by
        rw [x2] at hb2
        simp only [Rows.uptoBulk] at hb2
        have : m2.data.toList.length = m2.size := rfl
        omega
      cases d0; cases d1; cases d2; cases d3; cases d4; cases d5; cases d6; cases d7; subst d8
      refine ⟨⟨m0, m1, m2, m3, m4, m5, m6, m7, b8⟩, a8, cap8, rfl, B8, ⟨Nat.le_trans e1 (by decide), Nat.le_trans e2 (by decide), Nat.le_trans (Nat.le_trans l8 hb8) (by decide)⟩, fun x => ?_⟩
      have key : ∀ z : Int, (Lit.int .i64 z).wf = true → -9223372036854775808 ≤ z ∧ z ≤ 9223372036854775807 := fun z hz => by
        exact bounds_i64 hz
      obtain ⟨x, hx⟩ := x
      rcases (show x = 0 ∨ x = 1 ∨ x = 2 ∨ x = 3 ∨ x = 4 by omega) with rfl | rfl | rfl | rfl | rfl
      · exact key _ l3
      · exact key _ l4
      · exact key _ l5
      · exact key _ l6
      · exact key _ l7

set_option maxHeartbeats 4000000 in
theorem result_openU {cs : List Value} {fuel : Nat} {x : DataW H × List MemPlace} (hl : cs.length = 11) (h : DataW.trod enc Tryd.prog w base (fun _ => true) held fuel 48 cs = some x) (hb : Rows.uptoBulk x.1 ≤ 1048576) : ∃ (r : ResV) (ad : Option Addr) (capd : Nat) (an : Option Addr) (capn : Nat), cs = resC r (.slice ad r.data.length capd) (.slice an r.names.length capn) ∧ ResIn w r ad capd an capn := by
  have s3 : Tryd.prog.cellsOf 3 = 1 := by kernel_rfl
  have sE : Tryd.prog.cellsOf 29 = 1 := by kernel_rfl
  have s9 : Tryd.prog.cellsOf 9 = 1 := by kernel_rfl
  have s22 : Tryd.prog.cellsOf 22 = 1 := by kernel_rfl
  have s44 : Tryd.prog.cellsOf 44 = 1 := by kernel_rfl
  have sS : Tryd.prog.cellsOf 46 = 7 := by kernel_rfl
  have s5 : Tryd.prog.cellsOf 5 = 1 := by kernel_rfl
  match cs, hl with
  | [c0, c1, c2, c3, c4, c5, c6, c7, c8, c9, c10], _ =>
    obtain ⟨zs, n2, _, hxx, _, hzl, hg⟩ := DataW.trod_struct Tryd.underlying48 h
    have hz5 : zs.length = 5 := hzl
    match zs, hz5 with
    | [z0, z1, z2, z3, z4], _ =>
      have g0 := hg 0 _ rfl
      have g1 := hg 1 _ rfl
      have g2 := hg 2 _ rfl
      have g3 := hg 3 _ rfl
      have g4 := hg 4 _ rfl
      simp only [s3, sE, s9, s22, s44, sS, List.drop_zero, List.drop_succ_cons, List.take_succ_cons, List.take_zero, List.getElem?_cons_zero, List.getElem?_cons_succ] at g0 g1 g2 g3 g4
      obtain ⟨m0, d0, _, l0⟩ := DataW.trod_int Tryd.underlying29 g0
      obtain ⟨m1, d1, _, l1⟩ := DataW.trod_int Tryd.underlying3 g1
      obtain ⟨a2, b2, cap2, d2, l2, B2⟩ := bytes_openU Tryd.underlying22 Tryd.underlying5 s5 g2
      obtain ⟨a3, b3, cap3, d3, l3, B3⟩ := strs_openU Tryd.underlying44 Tryd.underlying9 s9 g3
      obtain ⟨ys, _, _, _, _, hyl, hh⟩ := DataW.trod_struct Tryd.underlying46 g4
      have hbb : Rows.uptoBulk z2.1 ≤ 1048576 ∧ Rows.uptoBulk z3.1 ≤ 1048576 := by
        rw [hxx] at hb
        simp only [Rows.uptoBulk, Rows.uptoBulkAll, List.map_cons, List.map_nil] at hb
        omega
      obtain ⟨hb2, hb3⟩ := hbb
      have hy7 : ys.length = 7 := hyl
      match ys, hy7 with
      | [y0, y1, y2, y3, y4, y5, y6], _ =>
        have f0 := hh 0 _ rfl
        have f1 := hh 1 _ rfl
        have f2 := hh 2 _ rfl
        have f3 := hh 3 _ rfl
        have f4 := hh 4 _ rfl
        have f5 := hh 5 _ rfl
        have f6 := hh 6 _ rfl
        simp only [s3, List.drop_zero, List.drop_succ_cons, List.take_succ_cons, List.take_zero, List.getElem?_cons_zero, List.getElem?_cons_succ] at f0 f1 f2 f3 f4 f5 f6
        obtain ⟨p0, e0, _, q0⟩ := DataW.trod_int Tryd.underlying3 f0
        obtain ⟨p1, e1, _, q1⟩ := DataW.trod_int Tryd.underlying3 f1
        obtain ⟨p2, e2, _, q2⟩ := DataW.trod_int Tryd.underlying3 f2
        obtain ⟨p3, e3, _, q3⟩ := DataW.trod_int Tryd.underlying3 f3
        obtain ⟨p4, e4, _, q4⟩ := DataW.trod_int Tryd.underlying3 f4
        obtain ⟨p5, e5, _, q5⟩ := DataW.trod_int Tryd.underlying3 f5
        obtain ⟨p6, e6, _, q6⟩ := DataW.trod_int Tryd.underlying3 f6
        cases d0; cases d1; cases e0; cases e1; cases e2; cases e3; cases e4; cases e5; cases e6; subst d2; subst d3
        have key : ∀ z : Int, (Lit.int .i64 z).wf = true → -9223372036854775808 ≤ z ∧ z ≤ 9223372036854775807 := fun z hz => by
          exact bounds_i64 hz
        refine ⟨⟨m0, m1, b2, b3, p0, p1, p2, p3, p4, p5, p6⟩, a2, cap2, a3, cap3, rfl, B2, ?_, B3, ?_, ?_, ?_⟩
        · show b2.length ≤ _
          omega
        · show b3.length ≤ _
          omega
        · show sumL b3 ≤ _
          omega
        · intro z hz
          simp only [List.mem_cons, List.not_mem_nil, or_false] at hz
          rcases hz with rfl | rfl | rfl | rfl | rfl | rfl | rfl | rfl | rfl
          · exact key _ l0
          · exact key _ l1
          · exact key _ q0
          · exact key _ q1
          · exact key _ q2
          · exact key _ q3
          · exact key _ q4
          · exact key _ q5
          · exact key _ q6

end

end Go.Proofs.YtdbkkfhneafeiaaDoor
