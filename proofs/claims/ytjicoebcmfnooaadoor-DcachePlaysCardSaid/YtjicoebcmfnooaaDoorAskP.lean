/-
  The asks that came in, one by one.
-/
import Derived.Test.YtjicoebcmfnooaaDoorStructsZ
import Derived.Test.YtjicoebcmfnooaaDoorDcacheLast
import Derived.Lib.LaidU8
namespace Go.Proofs.YtjicoebcmfnooaaDoor
open Go Go.RowKit Go.ChangeShapes Go.WideShapes Go.Deep
set_option linter.unusedSectionVars false
set_option linter.unusedSimpArgs false
set_option linter.unusedVariables false

theorem tabIs_reads {P : Program} {W : World} {name : String} {k : IntKind} {zs : List Int} {g : Nat} {t e : TypeId} {n : Nat}
    (hg : P.globalNamed name = some g) (hty : (P.globals[g]?).map (·.type) = some t) (ht : P.underlying t = some (.array n e)) (he : P.underlying e = some (.int k)) (hce : P.cellsOf e = 1) (hct : P.cellsOf t = n)
    (h : Lib.VarReads P W name (Lib.tabData k zs)) : Lib.TabIs P W name k zs := by
  obtain ⟨g', t', cs, fuel, p, hg', ht', hvar, hd⟩ := h
  obtain rfl := Option.some.inj (hg.symm.trans hg')
  obtain rfl := Option.some.inj (hty.symm.trans ht')
  unfold Lib.TabIs
  rw [hvar, ← Lib.cells_of_tab ht he hce hct hd]

abbrev asksK : List FieldKind := [.int .i64, .int .i64, .int .i64, .str]

theorem asks_in {w : World} {a : Option Addr} {len cap : Nat} (h : StructsIs asksK w a len cap) (hz : TextsLe asksK w a len) : ∃ rows, AsksIn w a len cap rows := by
  have hcap := h.cap
  by_cases h0 : 0 < len
  · have hx : ∃ x, a = some x := by
      rcases h with ⟨rfl, h1, _⟩ | ⟨x, rfl, _⟩
      · omega
      · exact ⟨x, rfl⟩
    obtain ⟨b, off, rfl, hb, hf⟩ := h.field h0 (by decide)
    have key : ∀ i, i < len → ∃ x : AskD, x.fine ∧ w.cell? ⟨b, off + i * 4, none⟩ = some (.int .i64 x.kind) ∧ w.cell? ⟨b, off + i * 4 + 1, none⟩ = some (.int .i64 x.dir) ∧ w.cell? ⟨b, off + i * 4 + 2, none⟩ = some (.int .i64 x.n) ∧ w.cell? ⟨b, off + i * 4 + 3, none⟩ = some (.string x.name) := by
      intro i hi
      obtain ⟨v0, c0, k, rfl, _⟩ := hf i hi 0 (.int .i64) rfl
      obtain ⟨v1, c1, d, rfl, w1⟩ := hf i hi 1 (.int .i64) rfl
      obtain ⟨v2, c2, n, rfl, _⟩ := hf i hi 2 (.int .i64) rfl
      obtain ⟨v3, c3, s, rfl, _⟩ := hf i hi 3 .str rfl
      have hs : s.size ≤ reachBytes := by
        refine hz _ rfl i hi 3 rfl s ?_
        have e : (Addr.add ⟨b, off, none⟩ (i * asksK.length + 3)) = ⟨b, off + i * 4 + 3, none⟩ := by
          unfold Addr.add
          rw [if_neg (by omega)]
          show (⟨b, off + (i * 4 + 3), none⟩ : Addr) = _
          rw [Nat.add_assoc]
        rw [e]
        exact c3
      have hw1 := bounds_i64 w1
      exact ⟨⟨k, d, n, s⟩, ⟨hw1, Nat.le_trans hs (by decide)⟩, c0, c1, c2, c3⟩
    have rows : ∀ m, m ≤ len → ∃ rows : List AskD, rows.length = m ∧ (∀ x ∈ rows, x.fine) ∧ ∀ i x, rows[i]? = some x → w.cell? ⟨b, off + i * 4, none⟩ = some (.int .i64 x.kind) ∧ w.cell? ⟨b, off + i * 4 + 1, none⟩ = some (.int .i64 x.dir) ∧ w.cell? ⟨b, off + i * 4 + 2, none⟩ = some (.int .i64 x.n) ∧ w.cell? ⟨b, off + i * 4 + 3, none⟩ = some (.string x.name) := by
      intro m
      induction m with
      | zero => exact fun _ => ⟨[], rfl, by simp, fun i x q => by simp at q⟩
      | succ m ih =>
        intro hm
        obtain ⟨r, h1, h2, h3⟩ := ih (by omega)
        obtain ⟨x, x1, x2⟩ := key m (by omega)
        refine ⟨r ++ [x], by simp [h1], ?_, ?_⟩
        · intro y hy
          rcases List.mem_append.1 hy with hy | hy
          · exact h2 y hy
          · simp at hy
            subst hy
            exact x1
        · intro i y hy
          by_cases hi : i < r.length
          · rw [List.getElem?_append_left hi] at hy
            exact h3 i y hy
          · rw [List.getElem?_append_right (by omega)] at hy
            have hi0 : i - r.length = 0 := by
              have := (List.getElem?_eq_some_iff.1 hy).1
              simp at this
              omega
            rw [hi0] at hy
            simp at hy
            subst hy
            obtain rfl : i = m := by omega
            exact x2
    obtain ⟨r, h1, h2, h3⟩ := rows len (Nat.le_refl _)
    exact ⟨r, h1, hcap.1, hcap.2, h2, fun _ => ⟨b, off, rfl, h3⟩⟩
  · obtain rfl : len = 0 := by omega
    exact ⟨[], rfl, hcap.1, hcap.2, by simp, fun q => by omega⟩

theorem last_row (x : Int) (a : Option Addr) (len cap : Nat) (W : World) (hp : Pw W) (hx : (Lit.int .i64 x).wf = true) (h : StructsIs asksK W a len cap) (hz : TextsLe asksK W a len) :
    Calls Tryd.prog 3 #[.int .i64 x, .slice a len cap] W fun r w' => r = .returned (.bool true) ∧ Below W.heap.size W w' := by
  obtain ⟨rows, hI⟩ := asks_in h hz
  have hb := bounds_i64 hx
  exact last_walk x a len cap rows W hp hb.1 hb.2 hI

end Go.Proofs.YtjicoebcmfnooaaDoor
