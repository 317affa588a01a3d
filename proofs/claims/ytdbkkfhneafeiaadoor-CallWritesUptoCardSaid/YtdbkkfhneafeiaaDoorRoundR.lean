/-
  Within a round of a range over a function: a region that draws its order, with reads (and quiet operations) before one store.
-/
import Derived.OrdersIn
import Derived.RangeFuncCalls
import Derived.RangeFuncWrites
import Derived.StillTailTactics
import Derived.WalkKit
namespace Go.Proofs.YtdbkkfhneafeiaaDoor
open Go Go.RowKit
set_option linter.unusedSectionVars false
set_option linter.unusedSimpArgs false
set_option linter.unusedVariables false

section
variable {P : Program} {l n : Nat}

theorem wp_round {o : Oper} {a : Act} {w : World} {K : Act → World → Prop} {Q : Exit → Act → World → Prop} (hd : ∀ c, o.op ≠ .defer c) (h : o.wp P a w K Q) : o.wpIn (Fence.wide.inRound l) n P a w K Q := by
  unfold Oper.wp at h
  unfold Oper.wpIn
  refine ⟨fun f _ => trivial, ?_⟩
  rw [Fence.inRound_round, Oper.semAt_eq _ _ _ hd]
  generalize (execOp a.eval o).run P w = r at h
  cases r with
  | ok x w' =>
    cases x with
    | value v => exact h
    | skip => exact h
    | defer d => exact h
    | enter f args => exact ⟨fun q => by simp [Fence.inRound, Fence.wide] at q, CallsIn.inRound l (callsIn_wide.2 h)⟩
    | row row args =>
      refine ⟨fun q => by simp [Fence.inRound, Fence.wide] at q, fun c cs _ => ?_⟩
      obtain ⟨v, w'', r, s⟩ := h c cs
      refine ⟨v, w'', r, ?_⟩
      rw [fenced_inRound]
      exact stepsIn_wide.2 s
    | _ => exact h.elim
  | halt x w' => cases x <;> exact h

def noDefer (ops : List Oper) : Bool := ops.all fun o => match o.op with | .defer _ => false | _ => true

theorem noDefer_at {ops : Array Oper} (h : noDefer ops.toList = true) {i : Nat} {o : Oper} (hi : ops[i]? = some o) : ∀ c, o.op ≠ .defer c := by
  intro c e
  have h1 := List.all_eq_true.1 h o (by
    rw [← Array.getElem?_toList] at hi
    exact List.mem_of_getElem? hi)
  rw [e] at h1
  simp at h1

theorem any_round {md : Region.Mode} {ops : Array Oper} {Q : Exit → Act → World → Prop} (hd : noDefer ops.toList = true) (hL : ¬ LetsOut Q) : ∀ (fuel : Nat) (listed : Array Bool) (a : Act) (w : World),
    wpAny P md ops Q fuel listed a w → wpAnyIn (Fence.wide.inRound l) n P md ops Q fuel listed a w
  | 0, _, _, _, h => h
  | fuel + 1, listed, a, w, h => by
    refine ⟨h.1, fun i hi => ?_⟩
    have h1 := h.2 i hi
    unfold wpOp at h1
    unfold wpOpIn
    split
    · rename_i ho
      rw [ho] at h1
      exact any_round hd hL fuel _ a w h1
    · rename_i o ho
      rw [ho] at h1
      simp only at h1
      split
      · rename_i hw
        rw [if_pos hw] at h1
        rcases h1 with h1 | h1
        · exact Oper.wpIn_mono (fun a' w' => any_round hd hL fuel _ a' w') (wp_round (noDefer_at hd ho) h1)
        · exact absurd h1.2 hL
      · rename_i hw
        rw [if_neg hw] at h1
        exact ⟨fun f _ => trivial, any_round hd hL fuel _ _ w h1⟩

theorem region_round {id : Nat} {ops : Array Oper} {Q : Exit → Act → World → Prop} {a : Act} {w : World} (hm : P.follows .mixedOrders = true) (hd : noDefer ops.toList = true) (hL : ¬ LetsOut Q)
    (h : wpAny P .any ops Q ops.size (Array.replicate ops.size false) a { w with drawn := w.drawn + 1 }) : (Code.region id ops true).wpIn (Fence.wide.inRound l) n P Q a w :=
  wpIn_region_any hm (any_round hd hL _ _ _ _ h)

/-- Reads, quiet operations, then from operation k on one behind the other. -/
theorem any_still_tail {Q : Exit → Act → World → Prop} {a : Act} {w : World} {ls : List Oper} (k : Nat) (hB : Region.lexTailB .any ls.toArray k = true)
    (h : wpStill P ls.toArray w (fun a' => wpList P ls.toArray Q (ls.drop k) a' w) (ls.take k) a) : wpAny P .any ls.toArray Q ls.toArray.size (Array.replicate ls.toArray.size false) a w := by
  simp only [Region.lexTailB, Bool.and_eq_true, decide_eq_true_eq] at hB
  obtain ⟨⟨⟨⟨b1, b2⟩, b3⟩, b4⟩, b5⟩ := hB
  have hk : k < ls.length := by simpa using b2
  have ht : (ls.take k).length = k := by rw [List.length_take]; omega
  have hdr : (ls.drop k).length = ls.toArray.size - k := by simp
  have H := wpAnyL_lex (md := .any) (g := ls.toArray.size - k) b1 b3 b4 b2 (ls.take k) 0 (Array.replicate ls.toArray.size false) a (fun j hj => by
    rw [ht] at hj
    rw [List.getElem?_take, if_pos hj]
    simp) (by rw [ht]; omega) ⟨by simp, fun j oj _ hl => (by rw [getD_replicate_false] at hl; cases hl), fun t _ q => getD_in (by simpa using q) (getD_replicate_false _ _)⟩ (by rw [ht]; exact b5) h
  have G := wpAny_of_head (Q' := Q) (g := ls.toArray.size - k) (fun listed a' hl => by
    have s := wpAny_of_seq (md := .any) (Q' := Q) (ls.drop k) k listed a' w (fun j => by rw [List.getElem?_drop]; simp) (by rw [hdr]; exact hl.1) hl.2
    rw [hdr] at s
    exact s) _ _ _ H
  rw [ht, show k + (ls.toArray.size - k) = ls.toArray.size by omega] at G
  exact G

theorem region_round_tail {id : Nat} {Q : Exit → Act → World → Prop} {a : Act} {w : World} {ls : List Oper} (k : Nat) (hm : P.follows .mixedOrders = true) (hB : Region.lexTailB .any ls.toArray k = true) (hd : noDefer ls.toArray.toList = true) (hL : ¬ LetsOut Q)
    (h : wpStill P ls.toArray { w with drawn := w.drawn + 1 } (fun a' => wpList P ls.toArray Q (ls.drop k) a' { w with drawn := w.drawn + 1 }) (ls.take k) a) : (Code.region id ls.toArray true).wpIn (Fence.wide.inRound l) n P Q a w :=
  region_round hm hd hL (any_still_tail k hB h)
end

end Go.Proofs.YtdbkkfhneafeiaaDoor
