/-
  A range over a function: what the kit's laws for it ask, said by Keep.
-/
import Derived.RangeFuncNested
import Derived.RangeFuncBound
import Derived.RangeFuncCalls
import Derived.RangeFuncLeaves
import Derived.RangeFuncWrites
import Derived.Shelf.Abstract
import Derived.Shelf.RegionOpen
import Derived.WalkKit
import Derived.OwnWalkIn
import Derived.TacticsInMore
import Derived.LoopNIn
import Derived.LoopIn
import Derived.Test.YtnjfcedkfobbcaaGreatLists
import Derived.Test.YtnjfcedkfobbcaaGreatLaws
import Derived.Test.YtnjfcedkfobbcaaGreatHeaps
import Derived.Maps.AppendAt
namespace Go.Proofs.YtnjfcedkfobbcaaGreat
open Go Go.RowKit Go.Shelf
set_option linter.unusedSectionVars false
set_option linter.unusedSimpArgs false
set_option linter.unusedVariables false

theorem keep_of_grown {w w' : World} {row : Option Nat} (h : w.grownBy w' row) : Keep w w' (fun b => some b = row) := Keep.grown h

/-- What the caller knows abides where nothing turned but what is no cells, from B on. -/
theorem own_of {β : Type} {B : Nat} {I : β → World → Prop} (h : ∀ s W W', I s W → Keep W W' (fun b => B ≤ b ∧ ∃ o, W.heap[b]? = some o ∧ o.isCells = false) → I s W') : OwnFrom B I :=
  fun s W W' row hs hg hr => h s W W' hs ((keep_of_grown hg).mono fun b e => hr b e.symm)

theorem keepsFrom_of {B : Nat} {W W' : World} {S : Nat → Prop} (h : Keep W W' S) (hS : ∀ b, S b → b < B) : KeepsFrom B W W' :=
  ⟨h.size, fun k o hB hk _ => by rw [h.block k (lt_of_blk hk) (fun q => by have := hS k q; omega)]; exact hk⟩

theorem not_cells {W : World} {b : Nat} {c : Array Value} {t : TypeId} {fr : Nat × Nat} (h : W.heap[b]? = some (.cells c t fr)) (q : ∃ o, W.heap[b]? = some o ∧ o.isCells = false) : False := by
  obtain ⟨o, h1, h2⟩ := q
  rw [h] at h1
  cases h1
  simp [Obj.isCells] at h2

/-- At the end of a function: no deferred call. -/
theorem leaves_none {F : Fence} {n : Nat} {P : Program} {fn : Func} {tmps : Array Value} {R : Ending → World → Prop} {w : World} (h : ∃ v, (results fn tmps).run P w = .ok v w ∧ R (.returned v) w) : LeavesInM F n P fn tmps R [] .returning w := h

/-- At the end of a function behind a loop over a function: the block for the rounds' deferred calls is given up. -/
theorem leaves_mark {F : Fence} {n : Nat} {P : Program} {fn : Func} {tmps : Array Value} {R : Ending → World → Prop} {w : World} {D : Nat} (hD : w.heap[D]? = some (.deferred (some []))) (h : ∀ w', Keep w w' (fun b => b = D) → ∃ v, (results fn tmps).run P w' = .ok v w' ∧ R (.returned v) w') :
    LeavesInM F n P fn tmps R [{ target := .collected D, args := #[] }] .returning w := by
  refine ⟨by simp, .inl ⟨D, _, rfl, run_takeDeferred hD, ?_⟩⟩
  refine h _ ((keep_of_grown (grownBy_putObj' w D (.deferred none))).mono fun b e => ?_)
  simpa using e

/-- What the body of a function must achieve that ends by a return alone. -/
def endPost (P : Program) (fn : Func) (R : Ending → World → Prop) : Exit → Act → World → Prop
  | .normal, a, w | .ret, a, w => LeavesInM Fence.wide 9 P fn a.tmps R a.defers .returning w
  | _, _, _ => False

@[go_sem] theorem endPost_panic (P : Program) (fn : Func) (R : Ending → World → Prop) (c : List PanicEntry) (a : Act) (w : World) : endPost P fn R (.panic c) a w = False := rfl

/-- A function's contract from its body, where the body holds a range over a function. -/
theorem calls_marks {P : Program} {f : FuncId} {fn : Func} {c : Code} {args : Array Value} {w : World} {R : Ending → World → Prop} (hf : P.funcs[f]? = some fn) (hb : fn.body = some c)
    (h : c.wp P (endPost P fn R) { tmps := args ++ Array.replicate (fn.ntmps - args.size) undef, defers := [] } w) : Calls P f args w R :=
  (callsIn_wide (n := 9)).1 (callsIn_of_wp_marks hf hb trivial (wpIn_wide.2 (wp_mono h fun e a w q => by
    cases e with
    | normal => exact q
    | ret => exact q
    | _ => exact q.elim)) rfl)

/-- 'for j = range f', one loop variable, in a function that is walked plainly: p: where yield's argument lies, j: the loop variable. -/
theorem wp_range1 {α : Type} {P : Program} {g : Operand} {p j : Tmp} {assign body : Code} {Q : Exit → Act → World → Prop} {a : Act} {w : World}
    {gf : Nat} {lb : Array Value} (hg : a.eval g = .func (.func gf) #[] lb) (eg : ∀ args w, (callFunc gf args).run P w = .ok (.enter gf args) w)
    {enc : α → Value} {n0 : Nat} {S Sp : List α → Prop} {N : Nat} (hseq : SeqStopsK Fence.wide 8 P gf lb (fun x => #[enc x]) (Below n0) S Sp N w) (hn0 : n0 ≤ w.heap.size)
    (I : List α → World → Prop) (Ix : Code → List α → World → Prop) (hI : OwnFrom w.heap.size I) (hIx : ∀ c, OwnFrom w.heap.size (Ix c)) (h0 : I [] w)
    (hassign : ∀ (l : Nat) (x : α) (W : World) (K : Act → World → Prop), K { tmps := (a.tmps.setIfInBounds p (enc x)).setIfInBounds j (enc x), defers := [] } W →
      assign.wpIn (Fence.wide.inRound l) 7 P (Exit.then K (fun _ _ _ => False)) { tmps := a.tmps.setIfInBounds p (enc x), defers := [] } W)
    (hbody : ∀ (l : Nat) (pre : List α) (x : α) (W : World), I pre W → pre.length < N → body.wpIn (Fence.wide.inRound l) 7 P (ownPostG w.heap.size (Below n0) I Ix (pre ++ [x]) W) { tmps := (a.tmps.setIfInBounds p (enc x)).setIfInBounds j (enc x), defers := [] } W)
    (hdone : ∀ (D : Nat) (xs : List α) (W : World), w.heap.size ≤ D → S xs → I xs W → W.heap[D]? = some (.deferred (some [])) → Q .normal { a with defers := { target := .collected D, args := #[] } :: a.defers } W)
    (hstop : ∀ (D : Nat) (c : Code) (pre : List α) (W : World), w.heap.size ≤ D → Sp pre → Ix c pre W → W.heap[D]? = some (.deferred (some [])) → c.wp P Q { a with defers := { target := .collected D, args := #[] } :: a.defers } W) :
    (Code.rangeFunc g #[p] assign body).wp P Q a w :=
  (wpIn_wide (n := 9)).1 (wpIn_rangeFunc_ownG (F := Fence.wide) rfl (by omega) hg trivial eg hseq belowK_t (belowK_b hn0) (Below.refl _ _) (fun _ => rfl) I Ix hI hIx h0 (fun x => { tmps := (a.tmps.setIfInBounds p (enc x)).setIfInBounds j (enc x), defers := [] })
    (fun l x W K hK => by have h := hassign l x W K hK; simpa using h) hbody hdone (fun D c pre W h1 h2 h3 h4 => wpIn_wide.2 (hstop D c pre W h1 h2 h3 h4)))

/-- 'append(s, u)' at a row of one's own, within a round. -/
theorem law_pushIn {F : Fence} {n : Nat} {P : Program} {w1 : World} {ops : Array Oper} {rest : List Oper} {o : Oper} {a : Act} {Q : Exit → Act → World → Prop} (hg : o.guard = none) (s x : Operand) (t : TypeId)
    (hop : o.op = .call { callee := .builtin .append, args := #[s, x], argTypes := #[t, t] }) {e : TypeId} {i : TypeInfo} {z : Value} (ht : P.underlying t = some (.slice e)) (hi : P.info? e = some i)
    (hz : i.zero = some z) (hsize : i.size = 1) (hby : i.bytes ≤ 64) (hzs : z.cells.size = 1) {v : Value} {k : Nat} {xs : List Value} (hown : w1.ownsRow 0 e 1 v k xs) (hs : a.eval s = v) (u : Value) (hu : u.oneCell' = true) {H : Nat} (hH : w1.heap.size = H) (hx : a.eval x = .slice (some ⟨H, 0, none⟩) 1 1) (hl : k ≤ 1099511627000)
    (hK : ∀ a8 cap8 w8, w8.ownsRow 0 e 1 (.slice a8 (k + 1) cap8) (k + 1) (xs ++ [u]) → Keep w1 w8 (fun b => v.ownBlock = some b) → (∀ b, (Value.slice a8 (k + 1) cap8).ownBlock = some b → v.ownBlock = some b ∨ w1.heap.size ≤ b) → wpListIn F n P ops Q rest (a.put o.dst (.slice a8 (k + 1) cap8)) w8) :
    wpListIn F n P ops Q (o :: rest) a (w1.alloc (.cells #[u] e)) := by
  subst hH
  have hk0 := Keep.alloc w1 (.cells #[u] e) (fun _ => False)
  have hsz := hk0.size
  refine wpListIn_plain hg fun K hK' => ?_
  obtain ⟨v', w', hrun, h2, h3, _, h5⟩ := run_append_own_at (P := P) (w1.alloc (.cells #[u] e)) 0 t o.type e i z 1 i.bytes ht hi hz hsize rfl hzs (by omega) v k xs (rows_keep hown hk0 (fun _ _ q => q)) ⟨w1.heap.size, 0, none⟩ 1 1 [u] rfl (cells_new w1 [u] e) (fun y hy => by simp at hy; rw [hy]; exact hu) (by unfold maxLen; omega) (by
    have : (k + 1) * i.bytes ≤ 1099511627776 * 64 := Nat.mul_le_mul (by omega) hby
    omega) (Nat.zero_le _)
  obtain ⟨sa', cap', rfl, _⟩ : ∃ a cap, v' = .slice a (k + 1) cap ∧ True := by
    rcases h2.2 with ⟨rfl, h⟩ | ⟨g, cap, cur, rfl, _⟩
    · rw [h]; exact ⟨_, _, rfl, trivial⟩
    · exact ⟨_, _, rfl, trivial⟩
  unfold Oper.wpIn
  refine ⟨?_, ?_⟩
  · simp [Oper.about, hop, resolve, Target.leads, Sem.run_pure]
  · rw [Oper.semAt_plain F _ _ (by rw [hop]; intro c hc'; cases hc')]
    simp [execOp, hop, resolve, invoke, builtin, hs, hx, hrun, Result.andThen]
    refine hK' _ _ (hK sa' cap' w' h2 ((hk0.mono (fun _ q => q.elim)).trans ((keep_of_grown h3).mono (T := fun b => v.ownBlock = some b) (fun b q => q.symm)) (fun b q => .inl q)) (fun b q => ?_))
    rcases h5 with h5 | h5
    · exact .inl (h5 ▸ q)
    · rw [h5] at q
      simp at q
      exact .inr (by omega)

end Go.Proofs.YtnjfcedkfobbcaaGreat
