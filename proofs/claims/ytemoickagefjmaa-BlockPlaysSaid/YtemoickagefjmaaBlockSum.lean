/-
  BlockSum: what is left and what all files have make the pool, whatever was written, cut, dropped or refused.
-/
import Derived.Test.YtemoickagefjmaaBlockL2
import Derived.Deep.CutRange
import Derived.Deep.CutBlock
namespace Go.Proofs.Ytemoickagefjmaa
open Go Go.RowKit
set_option linter.unusedSectionVars false
set_option linter.unusedSimpArgs false
set_option linter.unusedVariables false
set_option maxRecDepth 100000

def asks : List FieldKind := [.int .i64, .int .i64, .int .i64, .int .i64, .bytes]

/-- One ask, where it lies. -/
structure AskAt (w : World) (b o : Nat) (k f t c : Int) (sa : Option Addr) (m sc : Nat) : Prop where
  c0 : w.cell? ⟨b, o, none⟩ = some (.int .i64 k)
  c1 : w.cell? ⟨b, o + 1, none⟩ = some (.int .i64 f)
  c2 : w.cell? ⟨b, o + 2, none⟩ = some (.int .i64 t)
  c3 : w.cell? ⟨b, o + 3, none⟩ = some (.int .i64 c)
  c4 : w.cell? ⟨b, o + 4, none⟩ = some (.slice sa m sc)

theorem AskAt.keep {w w' : World} {b o : Nat} {k f t c : Int} {sa : Option Addr} {m sc : Nat} (h : AskAt w b o k f t c sa m sc) (K : Keep w w' (fun _ => False)) : AskAt w' b o k f t c sa m sc :=
  ⟨K.cell h.c0 (fun q => q), K.cell h.c1 (fun q => q), K.cell h.c2 (fun q => q), K.cell h.c3 (fun q => q), K.cell h.c4 (fun q => q)⟩

theorem asks_at {w : World} {a : Option Addr} {len cap : Nat} (h : StructsIs asks w a len cap) (h0 : 0 < len) :
    ∃ b off, a = some ⟨b, off, none⟩ ∧ ∀ i, i < len → ∃ k f t c sa m sc zs, AskAt w b (off + i * 5) k f t c sa m sc ∧ RowIs w sa m sc zs := by
  rcases h with ⟨_, h1, _⟩ | ⟨x, rfl, _, _, h3⟩
  · omega
  · obtain ⟨b, off, sp⟩ := x
    have e : ∀ n, w.cell? (Addr.add ⟨b, off, none⟩ n) = w.cell? ⟨b, off + n, none⟩ := by
      intro n
      unfold Addr.add
      split
      · rename_i h0; subst h0; rfl
      · rfl
    have hsp : sp = none := by
      obtain ⟨v, hv, _⟩ := h3 0 h0 0 (.int .i64) rfl
      cases sp with
      | none => rfl
      | some q =>
        rw [show 0 * asks.length + 0 = 0 from rfl] at hv
        simp only [Addr.add, if_true] at hv
        unfold World.cell? at hv
        split at hv <;> simp at hv
    subst hsp
    refine ⟨b, off, rfl, fun i hi => ?_⟩
    obtain ⟨v0, c0, k, rfl, _⟩ := h3 i hi 0 (.int .i64) rfl
    obtain ⟨v1, c1, f, rfl, _⟩ := h3 i hi 1 (.int .i64) rfl
    obtain ⟨v2, c2, t, rfl, _⟩ := h3 i hi 2 (.int .i64) rfl
    obtain ⟨v3, c3, c, rfl, _⟩ := h3 i hi 3 (.int .i64) rfl
    obtain ⟨v4, c4, sa, m, sc, zs, rfl, hr⟩ := h3 i hi 4 .bytes rfl
    rw [e] at c0 c1 c2 c3 c4
    exact ⟨k, f, t, c, sa, m, sc, zs, ⟨c0, by rw [← Nat.add_assoc] at c1; exact c1, by rw [← Nat.add_assoc] at c2; exact c2, by rw [← Nat.add_assoc] at c3; exact c3, by rw [← Nat.add_assoc] at c4; exact c4⟩, hr⟩

/-- The ask in a box of its own, beside the pool. -/
structure Boxed (w : World) (S : Nat → Prop) (nb : Nat) (k f t c : Int) (v : Value) : Prop where
  box : w.heap[nb]? = some (.cells #[.int .i64 k, .int .i64 f, .int .i64 t, .int .i64 c, v] 32 (0, 0))
  apart : ¬ S nb

theorem Boxed.turn {w w' : World} {S S' : Nat → Prop} {nb : Nat} {k f t c : Int} {v : Value} (h : Boxed w S nb k f t c v) (T : Turn w S w' S') : Boxed w' S' nb k f t c v :=
  ⟨T.keep.get h.box h.apart, fun q => (T.new _ q).elim h.apart (fun z => by
    have := (Array.getElem?_eq_some_iff.1 h.box).1
    omega)⟩

end Go.Proofs.Ytemoickagefjmaa
