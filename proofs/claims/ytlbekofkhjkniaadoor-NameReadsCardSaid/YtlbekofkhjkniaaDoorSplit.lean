/-
  strings.SplitSeq at a slash: the iterator's contract.
-/
import Derived.Test.YtlbekofkhjkniaaDoorRangeC
import Derived.Test.YtlbekofkhjkniaaDoorName0
import Derived.Test.YtlbekofkhjkniaaDoorShelf
import Derived.LoopIn
namespace Go.Proofs.YtlbekofkhjkniaaDoor
open Go Go.RowKit Go.Shelf
set_option linter.unusedSectionVars false
set_option linter.unusedSimpArgs false
set_option linter.unusedVariables false
attribute [local go_sem] Oper.semAt_some

def txB (l : Bl) : ByteArray := ⟨l.toArray⟩
theorem txB_size (l : Bl) : (txB l).size = l.length := by simp [txB, ByteArray.size]
theorem txB_list (l : Bl) : (txB l).data.toList = l := rfl
theorem txB_of (s : ByteArray) : txB s.data.toList = s := rfl

/-- Three boxes lie as they lay. -/
def Kb (b1 b2 b3 : Nat) (W W' : World) : Prop := W'.heap[b1]? = W.heap[b1]? ∧ W'.heap[b2]? = W.heap[b2]? ∧ W'.heap[b3]? = W.heap[b3]?

/-- How much is left to be split. -/
def leftS (bx : Nat) (W : World) : Nat := match W.cell? ⟨bx, 0, none⟩ with | some (.string s) => s.size | _ => 0

structure SplW (W : World) (bp bx bv : Nat) (r : Bl) : Prop where
  sep : W.heap[bp]? = some (.cells #[.string ⟨#[47]⟩] 9 (0, 0))
  str : W.heap[bx]? = some (.cells #[.string (txB r)] 9 (0, 0))
  sav : W.heap[bv]? = some (.cells #[.int .i64 0] 3 (0, 0))
  ne : bx ≠ bp ∧ bx ≠ bv

theorem SplW.kb {W U : World} {bp bx bv : Nat} {r : Bl} (h : SplW W bp bx bv r) (k : Kb bp bx bv W U) : SplW U bp bx bv r := ⟨k.1.trans h.sep, k.2.1.trans h.str, k.2.2.trans h.sav, h.ne⟩

theorem txB_take (r : Bl) (i : Nat) : (txB r).extract 0 i = txB (r.take i) := by
  apply ByteArray.ext
  simp [txB]

theorem txB_drop (r : Bl) (i : Nat) : (txB r).extract i (txB r).size = txB (r.drop i) := by
  apply ByteArray.ext
  rw [txB_size]
  simp only [txB, ByteArray.data_extract, List.extract_toArray, List.extract_eq_take_drop]
  rw [List.take_of_length_le (by rw [List.length_drop]; omega)]

theorem SplW.set {W : World} {bp bx bv : Nat} {r : Bl} (h : SplW W bp bx bv r) (r' : Bl) : SplW (W.setCell ⟨bx, 0, none⟩ (.string (txB r'))) bp bx bv r' ∧ leftS bx (W.setCell ⟨bx, 0, none⟩ (.string (txB r'))) = r'.length := by
  have k := Keep.setCell W ⟨bx, 0, none⟩ (.string (txB r'))
  have hb := heap_setCell_eq (off := 0) (.string (txB r')) h.str
  refine ⟨⟨k.get h.sep (fun q => h.ne.1 (Eq.symm q)), hb, k.get h.sav (fun q => h.ne.2 (Eq.symm q)), h.ne⟩, ?_⟩
  unfold leftS
  rw [cell_blk hb]
  simp [txB_size]

theorem SplW.left {W : World} {bp bx bv : Nat} {r : Bl} (h : SplW W bp bx bv r) : leftS bx W = r.length := by
  unfold leftS
  rw [cell_blk h.str]
  simp [txB_size]

set_option maxRecDepth 100000 in
set_option maxHeartbeats 2000000 in
theorem split1_in (l bp bx bv : Nat) (s : Bl) (hs : s.length ≤ 1000000) (B : Nat) (J Jx : List ByteArray → World → Prop) (hJ : AbidesX B (fun b => b = bx) J)
    (W : World) (hY : ∀ pre x U, J pre U → W.heap.size + 0 ≤ U.heap.size → pre.length ≤ 1000000 → YieldAt Fence.wide 7 Tryd.prog l #[.string x] U fun e U' => (e = .returned (.bool true) ∧ J (pre ++ [x]) U' ∧ Kb bp bx bv U U' ∧ U.heap.size ≤ U'.heap.size) ∨ (e = .returned (.bool false) ∧ Jx (pre ++ [x]) U' ∧ Kb bp bx bv U U'))
    (hW : SplW W bp bx bv s) (h0 : J [] W) :
    CallsIn Fence.wide 8 Tryd.prog 36 #[.func (.yield l) #[] #[], .pointer (some ⟨bp, 0, none⟩), .pointer (some ⟨bx, 0, none⟩), .pointer (some ⟨bv, 0, none⟩)] W fun e U => (∃ v, e = .returned v) ∧
      ((∃ xs, xs = (pieces s).map txB ∧ J xs U) ∨ (∃ pre, pre <+: (pieces s).map txB ∧ Jx pre U)) := by
  have c1 : W.cell? ⟨bp, 0, none⟩ = some (.string ⟨#[47]⟩) := by rw [cell_blk hW.sep]; rfl
  have H := Lib.hid hW
  clear hW
  refine callsIn_of_wp Tryd.func36 rfl trivial ?_ rfl
  simp only [Tryd.ntmps36, List.size_toArray, List.length_cons, List.length_nil, Nat.reduceAdd, Nat.reduceSub, Array.replicate_succ, Array.replicate_zero, List.push_toArray, List.append_toArray, List.nil_append, List.cons_append]
  gi_wp2
  gi_loopw [7, 8] (fun _ _ wr => ∃ (r : Bl) (pre : List Bl), SplW wr bp bx bv r ∧ J (pre.map txB) wr ∧ pre ++ pieces r = pieces s ∧ r.length ≤ s.length ∧ W.heap.size ≤ wr.heap.size) (fun _ _ wr => leftS bx wr)
  case atStart => exact ⟨s, [], H.out, h0, rfl, Nat.le_refl _, Nat.le_refl _⟩
  case round =>
    obtain ⟨r, pre, hS, hj, hp, hl, hwz⟩ := hrel
    have hpl : (pre.map txB).length ≤ 1000000 := by
      rw [List.length_map]
      have h1 := pieces_sum s
      have h2 : (pre ++ pieces r).length = (pieces s).length := by rw [hp]
      rw [List.length_append] at h2
      have h3 := List.length_pos_iff.2 (pieces_ne r)
      omega
    have d1 : wr.cell? ⟨bp, 0, none⟩ = some (.string ⟨#[47]⟩) := by rw [cell_blk hS.sep]; rfl
    have d2 : wr.cell? ⟨bx, 0, none⟩ = some (.string (txB r)) := by rw [cell_blk hS.str]; rfl
    have d3 : wr.cell? ⟨bv, 0, none⟩ = some (.int .i64 0) := by rw [cell_blk hS.sav]; rfl
    have hix := Tryd.strings_Index_one (txB r) 47 wr
    rw [txB_list] at hix
    obtain ⟨ix, hx⟩ : ∃ ix, ix = Lib.indexByte r 47 := ⟨_, rfl⟩
    rw [← hx] at hix
    have HX := Lib.hid hx
    have HL := Lib.hid hS.left
    clear hx
    by_cases hneg : ix < 0
    · have hp2 := pieces_none (l := r) (by rw [← HX.out]; exact hneg)
      obtain ⟨fn, tmps, assign, body, hy, hR⟩ := hY (pre.map txB) (txB r) wr hj (by omega) hpl
      have hfin : (pre ++ [r]).map txB = (pieces s).map txB := by rw [← hp, hp2]
      gi_wp2_with (
        refine ⟨trivial, ?_⟩
        gi_at_call 38
        refine (CallsIn.mono (callsIn_wide.2 hix)) ?_
        rintro e1 U ⟨rfl, hU⟩
        subst hU)
      refine hR.mono ?_
      rintro e U (⟨rfl, hj2, hk2, hz2⟩ | ⟨rfl, hx2, -⟩)
      · gi_wp2
        go_end0
        exact ⟨⟨_, rfl⟩, .inl ⟨_, rfl, by rw [← hfin, List.map_append]; exact hj2⟩⟩
      · gi_wp2
        go_end0
        exact ⟨⟨_, rfl⟩, .inr ⟨_, by rw [← hfin, List.map_append]; exact List.prefix_rfl, hx2⟩⟩
    · obtain ⟨i, rfl⟩ : ∃ i : Nat, ix = (i : Int) := ⟨ix.toNat, by omega⟩
      obtain ⟨hp2, hil⟩ := pieces_some HX.out.symm
      have g1 : ¬ (i : Int) < 0 := by omega
      obtain ⟨fn, tmps, assign, body, hy, hR⟩ := hY (pre.map txB) ((txB r).extract 0 i) wr hj (by omega) hpl
      have g3 : (i : Int) ≤ ((txB r).size : Int) := by rw [txB_size]; omega
      have g4 : IntKind.i64.wrap ((i : Int) + 1) = ((i + 1 : Nat) : Int) := by rw [IntWalk.i64_in _ (by omega)]; omega
      have g5 : ((i + 1 : Nat) : Int) ≤ ((txB r).size : Int) := by rw [txB_size]; omega
      gi_wp2_with (
        refine ⟨trivial, ?_⟩
        gi_at_call 38
        refine (CallsIn.mono (callsIn_wide.2 hix)) ?_
        rintro e1 U ⟨rfl, hU⟩
        subst hU)
      refine hR.mono ?_
      rintro e U (⟨rfl, hj2, hk2, hz2⟩ | ⟨rfl, hx2, -⟩)
      · have hS2 := hS.kb hk2
        have q1 : U.cell? ⟨bp, 0, none⟩ = some (.string ⟨#[47]⟩) := by rw [cell_blk hS2.sep]; rfl
        have q2 : U.cell? ⟨bx, 0, none⟩ = some (.string (txB r)) := by rw [cell_blk hS2.str]; rfl
        have f2 : U.frozen? ⟨bx, 0, none⟩ = false := free_blk hS2.str 0
        have D := Lib.hid (And.intro hS2 (And.intro hj2 hk2))
        clear hS2 hj2 hk2 hR hy hS hj
        gi_wp2
        go_roundw
        case rel =>
          rw [txB_drop]
          refine ⟨r.drop (i + 1), pre ++ [r.take i], (D.out.1.set _).1, hJ _ _ _ ?_ ((Keep.setCell U ⟨bx, 0, none⟩ (.string (txB (r.drop (i + 1))))).mono fun b q => .inl q), by rw [← hp, hp2, List.append_assoc]; rfl, by rw [List.length_drop]; omega, by have h1 := (Keep.setCell U ⟨bx, 0, none⟩ (.string (txB (r.drop (i + 1))))).size; omega⟩
          have h := D.out.2.1
          rw [txB_take] at h
          rw [List.map_append]
          exact h
        case measure =>
          rw [txB_drop, (D.out.1.set _).2, HL.out, List.length_drop]
          omega
      · gi_wp2
        refine bodyPost_ret (results_none rfl _ _ _) rfl ?_
        refine ⟨⟨_, rfl⟩, .inr ⟨_, ?_, hx2⟩⟩
        rw [txB_take, ← hp, hp2, List.map_append, List.map_cons]
        exact ⟨(pieces (r.drop (i + 1))).map txB, by simp⟩

theorem split_seq (bp bx bv : Nat) (s : Bl) (hs : s.length ≤ 1000000) (w : World) (hW : SplW w bp bx bv s) (hb : bp < w.heap.size ∧ bx < w.heap.size ∧ bv < w.heap.size) :
    SeqC 8 Tryd.prog 36 #[.pointer (some ⟨bp, 0, none⟩), .pointer (some ⟨bx, 0, none⟩), .pointer (some ⟨bv, 0, none⟩)] (fun x : ByteArray => Value.string x) (fun _ b => b = bx) 0 (fun _ => Kb bp bx bv)
      (fun xs => xs = (pieces s).map txB) (fun pre => pre <+: (pieces s).map txB) w := fun l J Jx W hB hJ hJx hY h0 => by
  have k := Keep.of_below hB
  refine split1_in l bp bx bv s hs _ J Jx hJ W hY ⟨k.get hW.sep ?_, k.get hW.str ?_, k.get hW.sav ?_, hW.ne⟩ h0 <;> (intro q; omega)

theorem split_c (w : World) (s : ByteArray) :
    Calls Tryd.prog 28 #[.string s, .string ⟨#[47]⟩] w fun r w' => r = .returned (.func (.func 36) #[] #[.pointer (some ⟨w.heap.size + 1, 0, none⟩), .pointer (some ⟨w.heap.size, 0, none⟩), .pointer (some ⟨w.heap.size + 1 + 1, 0, none⟩)]) ∧
      w' = ((w.alloc (.cells #[.string s] 9)).alloc (.cells #[.string ⟨#[47]⟩] 9)).alloc (.cells #[.int .i64 0] 3) := by
  have h1 : Calls Tryd.prog 33 #[.string s, .string ⟨#[47]⟩, .int .i64 0] w fun r w' => r = .returned (.func (.func 36) #[] #[.pointer (some ⟨w.heap.size + 1, 0, none⟩), .pointer (some ⟨w.heap.size, 0, none⟩), .pointer (some ⟨w.heap.size + 1 + 1, 0, none⟩)]) ∧
      w' = ((w.alloc (.cells #[.string s] 9)).alloc (.cells #[.string ⟨#[47]⟩] 9)).alloc (.cells #[.int .i64 0] 3) := by
    go_enter Tryd.func33, Tryd.ntmps33
    go_wp2
    go_ret
    exact ⟨rfl, rfl⟩
  go_enter Tryd.func28, Tryd.ntmps28
  go_wp2_with (
    go_at_call 33
    refine h1.mono ?_
    rintro e w' ⟨rfl, rfl⟩)
  go_ret
  exact ⟨rfl, rfl⟩

end Go.Proofs.YtlbekofkhjkniaaDoor
