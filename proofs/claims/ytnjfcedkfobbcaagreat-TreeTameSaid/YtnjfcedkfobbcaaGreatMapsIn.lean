/-
  A range over a map within a fence; a range over a function whose taker leaves walks alone.
-/
import Derived.Test.YtnjfcedkfobbcaaGreatRanges
import Derived.Sort.LoopGhostIn
namespace Go.Proofs.YtnjfcedkfobbcaaGreat
open Go Go.RowKit Go.Shelf
set_option linter.unusedSectionVars false
set_option linter.unusedSimpArgs false
set_option linter.unusedVariables false

theorem grown_of_keep {w w' : World} {it : Nat} (h : Keep w w' (fun b => b = it)) : w.grownBy w' (some it) :=
  ⟨h.os, h.tape, h.output, h.size, fun k hk hn => h.block k hk (fun e => hn (by rw [e]))⟩

section
variable {κ : Type} [DecidableEq κ] {F : Fence} {n : Nat} {P : Program} {w : World} {ops : Array Oper} {rest : List Oper} {o : Oper} {a : Act} {Q : Exit → Act → World → Prop} {kt et : TypeId} {kv : κ → Value} {b : Nat} {L : List (κ × Value)}

theorem law_rangeIn (hg : o.guard = none) (m : Operand) (t : TypeId) (hop : o.op = .range t m) (ht : P.underlying t = some (.map kt et)) (hm : a.eval m = .map (some b)) {B : List Nat} {c : Nat}
    (hat : MapAtB w b kv L B c) (hK : ∀ w1 it, it = w.heap.size → IterAt w1 it b L B [] → MapAtB w1 b kv L B c → Keep w w1 (fun _ => False) → it < w1.heap.size → wpListIn F n P ops Q rest (a.put o.dst (.pointer (some ⟨it, 0, none⟩))) w1) : wpListIn F n P ops Q (o :: rest) a w := by
  refine wpListIn_plain hg fun K' hK' => ?_
  obtain ⟨w1, hrun, h1, h2, h3, h4⟩ := range_run (P := P) ht hat
  unfold Oper.wpIn
  refine ⟨?_, ?_⟩
  · simp [Oper.about, hop, resolve, Target.leads, Sem.run_pure]
  · rw [Oper.semAt_plain F _ _ (by rw [hop]; intro c hc'; cases hc')]
    simp [execOp, hop, hm, hrun, Result.andThen]
    exact hK' _ _ (hK w1 _ rfl h1 h2 h3 h4)

theorem law_deleteIn (hg : o.guard = none) (m x : Operand) (t kx : TypeId) (hop : o.op = .call { callee := .builtin .delete, args := #[m, x], argTypes := #[t, kx] }) (K : KeyKind P kt kv) (ht : P.underlying t = some (.map kt et)) (hm : a.eval m = .map (some b))
    (hat : MapAt w b kv L) (k : κ) (hx : a.eval x = kv k)
    (hK : ∀ w1, MapAt w1 b kv (adel L k) → Keep w w1 (fun x => x = b) → wpListIn F n P ops Q rest (a.put o.dst (.tuple #[])) w1) : wpListIn F n P ops Q (o :: rest) a w := by
  refine wpListIn_plain hg fun K' hK' => ?_
  obtain ⟨w1, hrun, h1, h2, h3⟩ := delete_run (P := P) (kx := kx) K ht hat k
  have hrun' : ∀ ty, (Builtin.delete_ #[t, kx] ty #[.map (some b), kv k]).run P w = .ok (.tuple #[]) w1 := fun ty => hrun
  unfold Oper.wpIn
  refine ⟨?_, ?_⟩
  · simp [Oper.about, hop, resolve, Target.leads, Sem.run_pure]
  · rw [Oper.semAt_plain F _ _ (by rw [hop]; intro c hc'; cases hc')]
    simp [execOp, hop, resolve, invoke, builtin, hm, hx, hrun', Result.andThen]
    exact hK' _ _ (hK w1 h1 h2)

theorem law_nextIn (hg : o.guard = none) (i : Operand) (hop : o.op = .next i false) {it : Nat} (hi : a.eval i = .pointer (some ⟨it, 0, none⟩)) {B : List Nat} {c : Nat} {done : List κ}
    (hat : MapAtB w b kv L B c) (hit : IterAt w it b L B done) (hne : it ≠ b)
    (hover : ∀ w1, (∀ x ∈ L, x.1 ∈ done) → Keep w w1 (fun x => x = it) → wpListIn F n P ops Q rest (a.put o.dst (.tuple #[.bool false])) w1)
    (hmore : ∀ w1 x, x ∈ L → x.1 ∉ done → (Instr.entry (.pointer (some ⟨it, 0, none⟩))).run P w1 = .ok (.tuple #[kv x.1, x.2]) w1 → MapAtB w1 b kv L B c → IterAt w1 it b L B (x.1 :: done) → Keep w w1 (fun x => x = it) →
      wpListIn F n P ops Q rest (a.put o.dst (.tuple #[.bool true, kv x.1, x.2])) w1) : wpListIn F n P ops Q (o :: rest) a w := by
  refine wpListIn_plain hg fun K' hK' => ?_
  rcases next_run (P := P) (t := o.type) hat hit hne with ⟨w1, hrun, h1, h2⟩ | ⟨w1, x, h1, h2, hrun, h3, h4, h5, h6⟩
  · unfold Oper.wpIn
    refine ⟨?_, ?_⟩
    · simp [Oper.about, hop, resolve, Target.leads, Sem.run_pure]
    · rw [Oper.semAt_plain F _ _ (by rw [hop]; intro c hc'; cases hc')]
      simp [execOp, hop, hi, hrun, Result.andThen]
      exact hK' _ _ (hover w1 h1 h2)
  · unfold Oper.wpIn
    refine ⟨?_, ?_⟩
    · simp [Oper.about, hop, resolve, Target.leads, Sem.run_pure]
    · rw [Oper.semAt_plain F _ _ (by rw [hop]; intro c hc'; cases hc')]
      simp [execOp, hop, hi, hrun, Result.andThen]
      exact hK' _ _ (hmore w1 x h1 h2 h3 h4 h5 h6)
end

/-- What the taker leaves alone. -/
def KpW (n0 : Nat) (W W' : World) : Prop := KeepsWalks W W' ∧ Below n0 W W'
theorem KpW.trans {n0 : Nat} {A B C : World} (h : KpW n0 A B) (k : KpW n0 B C) : KpW n0 A C := ⟨h.1.trans k.1, h.2.trans k.2⟩
theorem KpW.of {n0 : Nat} {W W' : World} {S : Nat → Prop} (h : Keep W W' S) (hS : ∀ b, S b → n0 ≤ b ∧ ∀ o, W.heap[b]? = some o → o.isCells = true) (hn : n0 ≤ W.heap.size) : KpW n0 W W' :=
  ⟨⟨h.size, fun k o hk ho => by
    rw [h.block k (lt_of_blk hk) (fun q => ?_)]
    · exact hk
    · have := (hS k q).2 o hk
      cases o <;> simp_all [Obj.isCells, Obj.isWalk]⟩, h.below hn (fun b q => (hS b q).1)⟩

/-- As wp_range1. -/
theorem wp_range1W {α : Type} {P : Program} {g : Operand} {p j : Tmp} {assign body : Code} {Q : Exit → Act → World → Prop} {a : Act} {w : World}
    {gf : Nat} {lb : Array Value} (hg : a.eval g = .func (.func gf) #[] lb) (eg : ∀ args w, (callFunc gf args).run P w = .ok (.enter gf args) w)
    {enc : α → Value} {n0 : Nat} {S Sp : List α → Prop} {N : Nat} (hseq : SeqStopsK Fence.wide 8 P gf lb (fun x => #[enc x]) (KpW n0) S Sp N w) (hn0 : n0 ≤ w.heap.size)
    (I : List α → World → Prop) (Ix : Code → List α → World → Prop) (hI : OwnFrom w.heap.size I) (hIx : ∀ c, OwnFrom w.heap.size (Ix c)) (h0 : I [] w)
    (hassign : ∀ (l : Nat) (x : α) (W : World) (K : Act → World → Prop), K { tmps := (a.tmps.setIfInBounds p (enc x)).setIfInBounds j (enc x), defers := [] } W →
      assign.wpIn (Fence.wide.inRound l) 7 P (Exit.then K (fun _ _ _ => False)) { tmps := a.tmps.setIfInBounds p (enc x), defers := [] } W)
    (hbody : ∀ (l : Nat) (pre : List α) (x : α) (W : World), I pre W → pre.length < N → body.wpIn (Fence.wide.inRound l) 7 P (ownPostG w.heap.size (KpW n0) I Ix (pre ++ [x]) W) { tmps := (a.tmps.setIfInBounds p (enc x)).setIfInBounds j (enc x), defers := [] } W)
    (hdone : ∀ (D : Nat) (xs : List α) (W : World), w.heap.size ≤ D → S xs → I xs W → W.heap[D]? = some (.deferred (some [])) → Q .normal { a with defers := { target := .collected D, args := #[] } :: a.defers } W)
    (hstop : ∀ (D : Nat) (c : Code) (pre : List α) (W : World), w.heap.size ≤ D → Sp pre → Ix c pre W → W.heap[D]? = some (.deferred (some [])) → c.wp P Q { a with defers := { target := .collected D, args := #[] } :: a.defers } W) :
    (Code.rangeFunc g #[p] assign body).wp P Q a w :=
  (wpIn_wide (n := 9)).1 (wpIn_rangeFunc_ownG (F := Fence.wide) rfl (by omega) hg trivial eg hseq KpW.trans (fun W l o o' hl h hc hw => ⟨walksK_b W l o o' hl h hc hw, belowK_b hn0 W l o o' hl h hc hw⟩) (Below.refl _ _) (fun _ => rfl) I Ix hI hIx h0 (fun x => { tmps := (a.tmps.setIfInBounds p (enc x)).setIfInBounds j (enc x), defers := [] })
    (fun l x W K hK => by have h := hassign l x W K hK; simpa using h) hbody hdone (fun D c pre W h1 h2 h3 h4 => wpIn_wide.2 (hstop D c pre W h1 h2 h3 h4)))

end Go.Proofs.YtnjfcedkfobbcaaGreat
