/-
  WalkSteps of layer 12 of the given program answers true, whatever its arguments are.
-/
import Derived.Test.YtoanccechefclaaGreatDoorCards
import Derived.Test.YtoanccechefclaaGreatDoorTie
import Derived.Deep.DeepHandedRow
import Derived.Test.YtoanccechefclaaGreatDoorK33
import Derived.Test.YtoanccechefclaaGreatDoorK21
import Derived.WalkKit
import Derived.ProofKit
import Derived.OpenShut
import Derived.ShutString
import Derived.ChangeOld
import Derived.Below
namespace Go.Proofs.YtoanccechefclaaGreatDoor.walkSteps
open Go.RowKit Go.ChangeShapes Go.WideShapes Go.ChangeAt
open Go.ChangeMaps (open_string shut_string)
set_option linter.unusedVariables false

theorem own : ownKnob Tryz.prog.godebug = none := by kernel_rfl
theorem laidOut : laidOutB Tryz.prog = true := by kernel_rfl

set_option maxRecDepth 100000 in
theorem contract (H : Type) (enc : TypeId × Value → H) (W : World) (base : Nat) (args : Array Value) (ds gs : List (DataW H)) (before : List MemPlace)
    (hval0 : ∀ (j : Nat) t v, Tryz.f5.params[j]? = some t → args[j]? = some v → Value.okWide Tryz.prog W .any base t v)
    (hW : DataW.Whole enc Tryz.prog Tryz.f5.params.toList Rows.walkStepsSpec.vars false W args.toList ds gs before) :
    Calls Tryz.prog 5 args W fun e W' => ∃ v, e = .returned v ∧ Rows.walkStepsSpec.post enc Tryz.prog Tryz.f5 false true false false W args v W' := by
  have hval : ∀ (j : Nat) t v, Tryz.f5.params[j]? = some t → args[j]? = some v → Value.okWide Tryz.prog W .any base t v := hval0
  have hW' := hW
  obtain ⟨p, q, hA0, hV, rfl, hfz, hnd⟩ := hW
  have hA : DataW.TrodAll enc Tryz.prog W 0 (fun _ => true) true Tryz.f5.params.toList args.toList ds p := hA0
  rw [Tryz.params5] at hA hval
  obtain ⟨v0, vs0, d0, ds0, p0, q0, hargs, rfl, rfl, h0, r0⟩ := trodAll_cons hA
  obtain ⟨v1, vs1, d1, ds1, p1, q1, rfl, rfl, rfl, h1, r1⟩ := trodAll_cons r0
  obtain ⟨v2, vs2, d2, ds2, p2, q2, rfl, rfl, rfl, h2, r2⟩ := trodAll_cons r1
  obtain ⟨v3, vs3, d3, ds3, p3, q3, rfl, rfl, rfl, h3, r3⟩ := trodAll_cons r2
  obtain ⟨rfl, rfl, rfl⟩ := trodAll_nil r3
  obtain rfl : args = #[v0, v1, v2, v3] := by cases args; simp_all
  obtain ⟨rfl, rfl⟩ := trodVars_none hV
  obtain ⟨a0, len0, cap0, rfl⟩ := okWide_slice Tryz.underlying22 (hval 0 22 v0 rfl rfl)
  have k0 := h0
  have lt0 : ∀ x ∈ p0, x.block < W.heap.size := by obtain ⟨m, hm⟩ := k0; exact DataW.trod_lt m _ _ _ hm
  have w0 : StructsIs [.int .i64, .int .i64, .int .i64, .int .i64, .str, .str, .int .i64, .int .i64, .int .i64, .int .i64, .int .i64, .int .i64, .int .i64, .int .i64, .int .i64] W a0 len0 cap0 := by
    obtain ⟨fuel, hf⟩ := h0
    refine structs_openF [[.int .i64], [.int .i64], [.int .i64], [.int .i64], [.str], [.str], [.int .i64, .int .i64, .int .i64, .int .i64, .int .i64, .int .i64, .int .i64], [.int .i64, .int .i64]] Tryz.underlying22 Tryz.underlying40 (by kernel_rfl) ?_ hf
    intro j seg hj
    match j, hj with
    | 0, hj => exact ⟨_, rfl, by cases hj; exact (.inl ⟨_, rfl, Tryz.underlying3⟩), by kernel_rfl, by cases hj; kernel_rfl⟩
    | 1, hj => exact ⟨_, rfl, by cases hj; exact (.inl ⟨_, rfl, Tryz.underlying3⟩), by kernel_rfl, by cases hj; kernel_rfl⟩
    | 2, hj => exact ⟨_, rfl, by cases hj; exact (.inl ⟨_, rfl, Tryz.underlying3⟩), by kernel_rfl, by cases hj; kernel_rfl⟩
    | 3, hj => exact ⟨_, rfl, by cases hj; exact (.inl ⟨_, rfl, Tryz.underlying3⟩), by kernel_rfl, by cases hj; kernel_rfl⟩
    | 4, hj => exact ⟨_, rfl, by cases hj; exact (.inl ⟨_, rfl, Tryz.underlying9⟩), by kernel_rfl, by cases hj; kernel_rfl⟩
    | 5, hj => exact ⟨_, rfl, by cases hj; exact (.inl ⟨_, rfl, Tryz.underlying9⟩), by kernel_rfl, by cases hj; kernel_rfl⟩
    | 6, hj => exact ⟨_, rfl, by cases hj; exact (.inr ⟨_, Tryz.underlying36, by kernel_rfl, rfl, by
        intro j f hj
        match j, hj with
          | 0, hj => exact ⟨_, rfl, by cases hj; exact Tryz.underlying3⟩
          | 1, hj => exact ⟨_, rfl, by cases hj; exact Tryz.underlying3⟩
          | 2, hj => exact ⟨_, rfl, by cases hj; exact Tryz.underlying3⟩
          | 3, hj => exact ⟨_, rfl, by cases hj; exact Tryz.underlying3⟩
          | 4, hj => exact ⟨_, rfl, by cases hj; exact Tryz.underlying3⟩
          | 5, hj => exact ⟨_, rfl, by cases hj; exact Tryz.underlying3⟩
          | 6, hj => exact ⟨_, rfl, by cases hj; exact Tryz.underlying3⟩
          | j + 7, hj => simp at hj⟩), by kernel_rfl, by cases hj; kernel_rfl⟩
    | 7, hj => exact ⟨_, rfl, by cases hj; exact (.inr ⟨_, Tryz.underlying38, by kernel_rfl, rfl, by
        intro j f hj
        match j, hj with
          | 0, hj => exact ⟨_, rfl, by cases hj; exact Tryz.underlying3⟩
          | 1, hj => exact ⟨_, rfl, by cases hj; exact Tryz.underlying3⟩
          | j + 2, hj => simp at hj⟩), by kernel_rfl, by cases hj; kernel_rfl⟩
    | j + 8, hj => simp at hj
  obtain ⟨cs1, rfl, hcs1⟩ := okWide_struct Tryz.underlying24 (hval 1 24 v1 rfl rfl)
  have k1 := h1
  have lt1 : ∀ x ∈ p1, x.block < W.heap.size := by obtain ⟨m, hm⟩ := k1; exact DataW.trod_lt m _ _ _ hm
  obtain ⟨zs1, hz1, e1, w1⟩ := (show ∃ zs : List Int, zs.length = 2 ∧ cs1.toList = zs.map (Value.int .i64) ∧ ∀ z ∈ zs, (Lit.int .i64 z).wf = true from by
    obtain ⟨fuel, hf⟩ := h1
    exact istruct_open Tryz.underlying24 (by kernel_rfl) (by kernel_rfl) (by
      intro j g hj
      match j, hj with
      | 0, hj => cases hj; exact Tryz.underlying3
      | 1, hj => cases hj; exact Tryz.underlying3
      | j + 2, hj => simp at hj) (by rw [Array.length_toList, hcs1]) hf)
  obtain rfl : cs1 = (zs1.map (Value.int .i64)).toArray := by rw [← e1]
  obtain ⟨a1x0, a1x1, rfl⟩ := list2 hz1
  simp only [List.map_cons, List.map_nil] at *
  obtain ⟨a2, len2, cap2, rfl⟩ := okWide_slice Tryz.underlying25 (hval 2 25 v2 rfl rfl)
  have k2 := h2
  have lt2 : ∀ x ∈ p2, x.block < W.heap.size := by obtain ⟨m, hm⟩ := k2; exact DataW.trod_lt m _ _ _ hm
  obtain ⟨z2, w2⟩ := (show ∃ z, NumsIs .i64 W a2 len2 cap2 z from by obtain ⟨fuel, hf⟩ := h2; exact nums_open Tryz.underlying25 Tryz.underlying3 (by kernel_rfl) hf)
  obtain ⟨a3, rfl, rfl, rfl⟩ := open_bool Tryz.underlying4 (hval 3 4 v3 rfl rfl) h3
  clear hA0 hval0
  refine (wsteps_walk a0 len0 cap0 a1x0 a1x1 a2 len2 cap2 z2 a3 W w0 w1 w2).mono fun e W' ⟨he, bel⟩ => ?_
  subst he
  exact ⟨_, rfl, _, _, _, [], _, [], hW', trodAll_mk1 (shut_bool Tryz.underlying4 _), (trodAll_cons_mk (Below.trod laidOut (by kernel_rfl) (of_decide_eq_true (by kernel_rfl)) k0 bel lt0) (trodAll_cons_mk (Below.trod laidOut (by kernel_rfl) (of_decide_eq_true (by kernel_rfl)) k1 bel lt1) (trodAll_cons_mk (Below.trod laidOut (by kernel_rfl) (of_decide_eq_true (by kernel_rfl)) k2 bel lt2) (trodAll_cons_mk (shut_bool Tryz.underlying4 _) trodAll_mk0)))), rfl, bel.frame _, fun h => by cases h⟩

/-- A world for the witness: the settled one, the listed tables holding what their initialisers lay. -/
noncomputable def laidWorld (os : Os) : World :=
  { World.holding Tryz.prog os ⟨#[], #[], []⟩ with heap := (((World.holding Tryz.prog os ⟨#[], #[], []⟩).heap).modify 2 (fun | .cells _ t frozen => .cells #[.int .u8 128, .int .u8 191, .int .u8 160, .int .u8 191, .int .u8 128, .int .u8 159, .int .u8 144, .int .u8 191, .int .u8 128, .int .u8 143, .int .u8 0, .int .u8 0, .int .u8 0, .int .u8 0, .int .u8 0, .int .u8 0, .int .u8 0, .int .u8 0, .int .u8 0, .int .u8 0, .int .u8 0, .int .u8 0, .int .u8 0, .int .u8 0, .int .u8 0, .int .u8 0, .int .u8 0, .int .u8 0, .int .u8 0, .int .u8 0, .int .u8 0, .int .u8 0] t frozen | o => o)).modify 1 (fun | .cells _ t frozen => .cells (Go.Pinned.utf8FirstZ.map fun n : Nat => Value.int .u8 n).toArray t frozen | o => o) }
set_option maxRecDepth 100000 in
theorem laid_met (os : Os) : laidMet Tryz.prog Rows.walkStepsRow.laid ((laidWorld os).forCall (fun _ _ => 0) ⟨#[], #[.slice none 0 0, .agg #[.int .i64 0, .int .i64 0], .slice none 0 0, .bool false], []⟩).memory :=
  laidMet_of_run' 8 (by kernel_rfl) (by kernel_rfl)
theorem reads (os : Os) {H : Type} (enc : TypeId × Value → H) : ∃ places, DataW.whole enc Tryz.prog ((laidWorld os).forCall (fun _ _ => 0) ⟨#[], #[.slice none 0 0, .agg #[.int .i64 0, .int .i64 0], .slice none 0 0, .bool false], []⟩).memory Tryz.f5.params.toList Rows.walkStepsSpec.vars false ((#[.slice none 0 0, .agg #[.int .i64 0, .int .i64 0], .slice none 0 0, .bool false] : Array Value)).toList 8 = some ([.nil, .agg [.lit (.int .i64 0), .lit (.int .i64 0)], .nil, .lit (.bool false)], [], places) :=
  ⟨[], by kernel_rfl⟩

set_option maxRecDepth 100000 in
theorem lifted (os : Os) (started : os.Started) (H : Type) (enc : TypeId × Value → H) (F : Stop.Interp) :
    ReturnsInHanded {} Tryz.checked os 5 .any ((OpenSpec.ofChange Rows.walkStepsSpec).preRow enc Tryz.prog Tryz.f5 Rows.walkStepsRow.domain false Rows.walkStepsRow.laid) (((OpenSpec.ofChange Rows.walkStepsSpec).at F).post enc Tryz.prog Tryz.f5 false true false false) := by
  obtain ⟨places, hx⟩ := reads os enc
  refine returnsInHanded_of_row (C := Tryz.checked) (s := OpenSpec.ofChange Rows.walkStepsSpec) own started (by kernel_rfl) Tryz.func5
    (witness_row_at (enc := enc) (C := Tryz.checked) false (laidWorld os) #[.slice none 0 0, .agg #[.int .i64 0, .int .i64 0], .slice none 0 0, .bool false] rfl (by kernel_rfl) (by kernel_rfl) (by kernel_rfl)
      (OpenSpec.preRow_of_cond 8 hx (by kernel_rfl) (fun k hk => by cases hk) (by kernel_rfl) (laid_met os))) ?_
  intro W base args ds gs before hval hW _ _ _ hL _ _
  exact contract H enc W base args ds gs before hval hW

theorem said : Rows.WalkStepsSaid :=
  OpenClaim.holds_of_cond 5 Tryz.f5 rfl rfl rfl rfl rfl rfl rfl ⟨rfl, rfl, rfl, rfl, rfl⟩ rfl rfl rfl rfl rfl (by kernel_rfl) Tryz.func5 (by kernel_rfl)
    (of_decide_eq_true (by kernel_rfl)) (by unfold Func.isWrapper; first | (rw [if_pos (by decide +kernel)]; kernel_rfl) | (rw [if_neg (by decide +kernel)]; exact ⟨rfl, rfl⟩))
    (fun os started H enc _ F => by rw [OpenClaim.pre_eq_preRow]; exact lifted os started H enc F)

/-- No parameter wants a stand-in; the program's own looks are off. -/
theorem plain (f : FuncId) (fn : Func) (hf : Tryz.pinned.checked.prog.funcNamed "warren/warrenlaw12.WalkSteps" = some f) (hfn : Tryz.pinned.checked.prog.funcs[f]? = some fn) :
    false = Tryz.pinned.checked.prog.looks [] ∧ ∀ (j : Nat) t, fn.params[j]? = some t → Tryz.pinned.checked.prog.wantsStandIn t = false := by
  obtain rfl : f = 5 := Option.some.inj ((show Tryz.prog.funcNamed "warren/warrenlaw12.WalkSteps" = some 5 by kernel_rfl).symm.trans hf) |>.symm
  obtain rfl : fn = Tryz.f5 := (Option.some.inj (Tryz.func5.symm.trans hfn)).symm
  refine ⟨by kernel_rfl, fun j t ht => ?_⟩
  rw [Tryz.params5] at ht
  have hm := Array.mem_of_getElem? ht
  simp only [List.mem_toArray, List.mem_cons, List.not_mem_nil, or_false] at hm
  rcases hm with rfl | rfl | rfl | rfl
  · exact (show Tryz.prog.wantsStandIn 22 = false by kernel_rfl)
  · exact (show Tryz.prog.wantsStandIn 24 = false by kernel_rfl)
  · exact (show Tryz.prog.wantsStandIn 25 = false by kernel_rfl)
  · exact (show Tryz.prog.wantsStandIn 4 = false by kernel_rfl)

theorem proved : Rows.WalkStepsCardSaid :=
  Claim7.holds_tied_plain_at .later [] _ _ _ _ said (fun _ h => by cases h) (by kernel_rfl) (fun _ h => by cases h) walkSteps_row_tie rfl ⟨rfl, rfl⟩ (by kernel_rfl) rfl plain (by kernel_rfl)
#print axioms proved
end Go.Proofs.YtoanccechefclaaGreatDoor.walkSteps
