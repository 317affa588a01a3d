/-
  strings.SplitSeq at a slash: the iterator's contract.
-/
import Derived.Test.YtnjfcedkfobbcaaGreatRangeC
import Derived.Test.YtnjfcedkfobbcaaGreatName0
import Derived.Test.YtnjfcedkfobbcaaGreatShelf
import Derived.LoopIn
namespace Go.Proofs.YtnjfcedkfobbcaaGreat
open Go Go.RowKit Go.Shelf
set_option linter.unusedSectionVars false
set_option linter.unusedSimpArgs false
set_option linter.unusedVariables false
attribute [local go_sem] Oper.semAt_some

def txB (l : Bl) : ByteArray := ⟨l.toArray⟩
theorem txB_size (l : Bl) : (txB l).size = l.length := by simp [txB, ByteArray.size]
theorem txB_list (l : Bl) : (txB l).data.toList = l := rfl
theorem txB_of (s : ByteArray) : txB s.data.toList = s := rfl

/-- Three boxes lie as they lay. -/
def Kb (b1 b2 b3 : Nat) (W W' : World) : Prop := W'.heap[b1]? = W.heap[b1]? ∧ W'.heap[b2]? = W.heap[b2]? ∧ W'.heap[b3]? = W.heap[b3]?

/-- How much is left to be split. -/
def leftS (bx : Nat) (W : World) : Nat := match W.cell? ⟨bx, 0, none⟩ with | some (.string s) => s.size | _ => 0

structure SplW (W : World) (bp bx bv : Nat) (r : Bl) : Prop where
  sep : W.heap[bp]? = some (.cells #[.string ⟨#[47]⟩] 9 (0, 0))
  str : W.heap[bx]? = some (.cells #[.string (txB r)] 9 (0, 0))
  sav : W.heap[bv]? = some (.cells #[.int .i64 0] 3 (0, 0))
  ne : bx ≠ bp ∧ bx ≠ bv

theorem SplW.kb {W U : World} {bp bx bv : Nat} {r : Bl} (h : SplW W bp bx bv r) (k : Kb bp bx bv W U) : SplW U bp bx bv r := ⟨k.1.trans h.sep, k.2.1.trans h.str, k.2.2.trans h.sav, h.ne⟩

theorem txB_take (r : Bl) (i : Nat) : (txB r).extract 0 i = txB (r.take i) := by
  apply ByteArray.ext
  simp [txB]

theorem txB_drop (r : Bl) (i : Nat) : (txB r).extract i (txB r).size = txB (r.drop i) := by
  apply ByteArray.ext
  rw [txB_size]
  simp only [txB, ByteArray.data_extract, List.extract_toArray, List.extract_eq_take_drop]
  rw [List.take_of_length_le (by rw [List.length_drop]; omega)]

theorem SplW.set {W : World} {bp bx bv : Nat} {r : Bl} (h : SplW W bp bx bv r) (r' : Bl) : SplW (W.setCell ⟨bx, 0, none⟩ (.string (txB r'))) bp bx bv r' ∧ leftS bx (W.setCell ⟨bx, 0, none⟩ (.string (txB r'))) = r'.length := by
  have k := Keep.setCell W ⟨bx, 0, none⟩ (.string (txB r'))
  have hb := heap_setCell_eq (off := 0) (.string (txB r')) h.str
  refine ⟨⟨k.get h.sep (fun q => h.ne.1 (Eq.symm q)), hb, k.get h.sav (fun q => h.ne.2 (Eq.symm q)), h.ne⟩, ?_⟩
  unfold leftS
  rw [cell_blk hb]
  simp [txB_size]

theorem SplW.left {W : World} {bp bx bv : Nat} {r : Bl} (h : SplW W bp bx bv r) : leftS bx W = r.length := by
  unfold leftS
  rw [cell_blk h.str]
  simp [txB_size]

end Go.Proofs.YtnjfcedkfobbcaaGreat
