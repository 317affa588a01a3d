/-
  Plain laws of mounts: how far they count; the way back up; asks that come in.
-/
import Derived.Test.YtemoickagefjmaaMountNumbers
import Derived.Test.YtemoickagefjmaaStructsF
namespace Go.Proofs.Ytemoickagefjmaa
open Go Go.RowKit Go.Shelf
set_option linter.unusedSectionVars false
set_option linter.unusedSimpArgs false
set_option linter.unusedVariables false

theorem MountV.bind_counts (V : MountV) (m n k : Int) : (V.bind m n k).1.made ≤ V.made + 1 ∧ V.made ≤ (V.bind m n k).1.made ∧ (V.bind m n k).1.turns ≤ V.turns + 1 ∧ V.turns ≤ (V.bind m n k).1.turns := by
  unfold MountV.bind
  split
  · dsimp only; omega
  · split
    · dsimp only; omega
    · split
      · dsimp only; omega
      · dsimp only; omega
theorem MountV.unbind_counts (V : MountV) (m : Int) : (V.unbind m).1.made = V.made ∧ (V.unbind m).1.turns ≤ V.turns + 1 ∧ V.turns ≤ (V.unbind m).1.turns := by
  unfold MountV.unbind
  split
  · dsimp only; omega
  · split
    · dsimp only; omega
    · dsimp only; omega

/-- From p on, k mounts down, q is reached. -/
inductive MPath (V : MountV) (p : Int × Int) : Nat → Int × Int → Prop
  | zero : MPath V p 0 p
  | succ {k : Nat} {m n : Int} {x : Mnt} : MPath V p k (m, n) → V.over m n = some x → MPath V p (k + 1) (x.1, x.2.top)

theorem MPath.down {V : MountV} (h : V.ok) {p : Int × Int} : ∀ (r : Nat) (k : Nat) (m n : Int), V.rank m ≤ r → MPath V p k (m, n) → ∃ k', k' ≤ k + r ∧ MPath V p k' (V.down m n)
  | 0, k, m, n, hr, hp => by
    cases ho : V.over m n with
    | none => rw [MountV.down_none ho]; exact ⟨k, by omega, hp⟩
    | some x => have := MountV.rank_lt h ho; omega
  | r + 1, k, m, n, hr, hp => by
    cases ho : V.over m n with
    | none => rw [MountV.down_none ho]; exact ⟨k, by omega, hp⟩
    | some x =>
      have h1 := MountV.rank_lt h ho
      obtain ⟨k', h2, h3⟩ := MPath.down h r (k + 1) x.1 x.2.top (by omega) (.succ hp ho)
      rw [MountV.down_some h ho]
      exact ⟨k', by omega, h3⟩

theorem MPath.ge {V : MountV} (h : V.ok) {p : Int × Int} {k : Nat} {q : Int × Int} (hp : MPath V p k q) : p.1 + k ≤ q.1 := by
  induction hp with
  | zero => omega
  | succ hp ho ih =>
    obtain ⟨h1, h2, h3, h4⟩ := MountV.over_mem ho
    have := (h.at_ _ h1 h2).1
    simp only at ih ⊢
    omega

/-- The way back. -/
theorem MPath.back {V : MountV} (h : V.ok) {p : Int × Int} {k : Nat} {a b : Int} (hp : MPath V p (k + 1) (a, b)) :
    ∃ m n, MPath V p k (m, n) ∧ V.up a b = (m, n, true) ∧ V.root_ a = (b, true) ∧ (a, b) ≠ p := by
  have hne := MPath.ge h hp
  cases hp with
  | succ hp ho =>
    rename_i m n x
    obtain ⟨h1, h2, h3, h4⟩ := MountV.over_mem ho
    have hg : aget V.live x.1 = some x.2 := aget_of_memM h.nodup h1
    refine ⟨m, n, hp, ?_, ?_, ?_⟩
    · unfold MountV.up
      rw [hg]
      dsimp only
      rw [if_neg (by omega), h3, h4]
    · unfold MountV.root_
      rw [hg]
    · intro e
      rw [← e] at hne
      simp only at hne
      omega

/-! ### asks -/

abbrev asksM : List FieldKind := [.int .i64, .int .i64, .int .i64, .int .i64, .int .i64]

structure AskMAt (w : World) (b o : Nat) (k m nd am an : Int) : Prop where
  c0 : w.cell? ⟨b, o, none⟩ = some (.int .i64 k)
  c1 : w.cell? ⟨b, o + 1, none⟩ = some (.int .i64 m)
  c2 : w.cell? ⟨b, o + 2, none⟩ = some (.int .i64 nd)
  c3 : w.cell? ⟨b, o + 3, none⟩ = some (.int .i64 am)
  c4 : w.cell? ⟨b, o + 4, none⟩ = some (.int .i64 an)

theorem AskMAt.keep {w w' : World} {b o : Nat} {k m nd am an : Int} (h : AskMAt w b o k m nd am an) (K : Keep w w' (fun _ => False)) : AskMAt w' b o k m nd am an :=
  ⟨K.cell h.c0 (fun q => q), K.cell h.c1 (fun q => q), K.cell h.c2 (fun q => q), K.cell h.c3 (fun q => q), K.cell h.c4 (fun q => q)⟩

theorem asksM_at {w : World} {a : Option Addr} {len cap : Nat} (h : StructsIs asksM w a len cap) (h0 : 0 < len) :
    ∃ b off, a = some ⟨b, off, none⟩ ∧ b < w.heap.size ∧ ∀ i, i < len → ∃ k m nd am an, AskMAt w b (off + i * 5) k m nd am an ∧ (∀ z ∈ [k, m, nd, am, an], -9223372036854775808 ≤ z ∧ z ≤ 9223372036854775807) := by
  obtain ⟨b, off, rfl, hb, hf⟩ := h.field h0 (by decide)
  refine ⟨b, off, rfl, hb, fun i hi => ?_⟩
  obtain ⟨v0, c0, k, rfl, w0⟩ := hf i hi 0 (.int .i64) rfl
  obtain ⟨v1, c1, m, rfl, w1⟩ := hf i hi 1 (.int .i64) rfl
  obtain ⟨v2, c2, nd, rfl, w2⟩ := hf i hi 2 (.int .i64) rfl
  obtain ⟨v3, c3, am, rfl, w3⟩ := hf i hi 3 (.int .i64) rfl
  obtain ⟨v4, c4, an, rfl, w4⟩ := hf i hi 4 (.int .i64) rfl
  refine ⟨k, m, nd, am, an, ⟨c0, c1, c2, c3, c4⟩, fun z hz => ?_⟩
  simp only [List.mem_cons, List.not_mem_nil, or_false] at hz
  rcases hz with rfl | rfl | rfl | rfl | rfl
  · exact bounds_i64 w0
  · exact bounds_i64 w1
  · exact bounds_i64 w2
  · exact bounds_i64 w3
  · exact bounds_i64 w4

end Go.Proofs.Ytemoickagefjmaa
