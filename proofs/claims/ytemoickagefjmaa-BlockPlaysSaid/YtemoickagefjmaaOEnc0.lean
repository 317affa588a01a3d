/-
  Texts are written behind their length (call.text).
-/
import Derived.Test.YtemoickagefjmaaCode1
import Derived.Test.YtemoickagefjmaaLaws
import Derived.Test.YtemoickagefjmaaHeaps
import Derived.Test.YtemoickagefjmaaChecked
import Derived.WalkMore
namespace Go.Proofs.Ytemoickagefjmaa
open Go Go.RowKit
set_option linter.unusedSectionVars false
set_option linter.unusedSimpArgs false
set_option linter.unusedVariables false
set_option maxRecDepth 100000

/-- Bytes that are one's own. -/
def OwnB (w : World) (v : Value) (l : Bs) : Prop := w.ownsRow 0 5 1 v l.length (l.map u8V)

theorem OwnB.val {w : World} {v : Value} {l : Bs} (h : OwnB w v l) : ∃ a n cap, v = .slice a n cap ∧ n = l.length := by
  obtain ⟨a, cap, e, _⟩ := rows_val2 h
  exact ⟨a, _, cap, e, rfl⟩

theorem OwnB.keep {w w' : World} {v : Value} {l : Bs} {S : Nat → Prop} (h : OwnB w v l) (k : Keep w w' S) (hS : ∀ b, v.ownBlock = some b → ¬ S b) : OwnB w' v l := rows_keep h k hS

theorem OwnB.lt {w : World} {v : Value} {l : Bs} (h : OwnB w v l) : ∀ b, v.ownBlock = some b → b < w.heap.size := by
  intro b q
  rcases rows_val h with ⟨rfl, _⟩ | ⟨g, cap, rfl, _, h2, h3⟩
  · simp [Value.ownBlock] at q
  · rw [h2] at q; cases q; exact h3

theorem u8_info : ∃ i, Try.prog.info? 5 = some i ∧ i.zero = some (.int .u8 0) ∧ i.size = 1 ∧ i.bytes = 1 := by
  refine ⟨_, rfl, ?_, ?_, ?_⟩
  · kernel_rfl
  · kernel_rfl
  · kernel_rfl

theorem rows_own {w : World} {l : Bs} {v : Value} {n : Nat} {xs : List Value} (h : w.ownsRow 0 5 1 v n xs) (hn : n = l.length) (hx : xs = l.map u8V) : OwnB w v l := by
  subst hn hx; exact h

theorem be2_vals (n : Nat) : (be2 n).map u8V = [.int .u8 ((n : Int) / 256 % 256), .int .u8 ((n : Int) % 256)] := by
  unfold be2 u8V
  simp only [List.map_cons, List.map_nil, byte_toNat]
  rw [Int.natCast_emod, Int.natCast_emod, Int.natCast_ediv]
  rfl

end Go.Proofs.Ytemoickagefjmaa
