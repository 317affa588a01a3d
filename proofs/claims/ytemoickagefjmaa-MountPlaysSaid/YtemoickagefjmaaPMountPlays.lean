/-
  MountPlays of layer 11 of the given program answers true, whatever its arguments are.
-/
import Derived.Test.YtemoickagefjmaaRows
import Derived.Test.YtemoickagefjmaaMountPlays
import Derived.Test.YtemoickagefjmaaStructsF
import Derived.WalkKit
import Derived.ProofKit
import Derived.OpenShut
import Derived.ShutString
import Derived.ChangeOld
import Derived.Below
namespace Go.Proofs.Ytemoickagefjmaa.mountPlays
open Go.RowKit Go.ChangeShapes Go.WideShapes Go.ChangeAt
open Go.ChangeMaps (open_string shut_string)
set_option linter.unusedVariables false

theorem own : ownKnob Try.prog.godebug = none := by kernel_rfl
theorem laidOut : laidOutB Try.prog = true := by kernel_rfl

set_option maxRecDepth 100000 in
theorem lifted (os : Os) (started : os.Started) (H : Type) (enc : TypeId × Value → H) :
    ReturnsInHanded {} Try.checked os 8 .any (Rows.mountPlaysSpec.pre6 enc Try.prog Try.f8 Rows.mountPlaysRow.domain false) (Rows.mountPlaysSpec.post enc Try.prog Try.f8 false true false false) := by
  refine returnsInHanded_of_change (C := Try.checked) own started (by kernel_rfl) Try.func8
    (ChangeSpec.witness6 (enc := enc) (C := Try.checked) false ⟨#[], #[.int .i64 0, .slice none 0 0], []⟩ 8 (by kernel_rfl) (by kernel_rfl) (by kernel_rfl) (by kernel_rfl)) ?_
  intro W base args ds gs before hval0 hW hcnd _
  have hval : ∀ (j : Nat) t v, Try.f8.params[j]? = some t → args[j]? = some v → Value.okWide Try.prog W .any base t v := hval0
  have hW' := hW
  obtain ⟨p, q, hA0, hV, rfl, hfz, hnd⟩ := hW
  have hA : DataW.TrodAll enc Try.prog W 0 (fun _ => true) true Try.f8.params.toList args.toList ds p := hA0
  rw [Try.params8] at hA hval
  obtain ⟨v0, vs0, d0, ds0, p0, q0, hargs, rfl, rfl, h0, r0⟩ := trodAll_cons hA
  obtain ⟨v1, vs1, d1, ds1, p1, q1, rfl, rfl, rfl, h1, r1⟩ := trodAll_cons r0
  obtain ⟨rfl, rfl, rfl⟩ := trodAll_nil r1
  obtain rfl : args = #[v0, v1] := by cases args; simp_all
  obtain ⟨rfl, rfl⟩ := trodVars_none hV
  obtain ⟨a0, rfl, rfl, rfl, w0⟩ := open_int Try.underlying3 (hval 0 3 v0 rfl rfl) h0
  obtain ⟨a1, len1, cap1, rfl⟩ := okWide_slice Try.underlying47 (hval 1 47 v1 rfl rfl)
  have k1 := h1
  have lt1 : ∀ x ∈ p1, x.block < W.heap.size := by obtain ⟨m, hm⟩ := k1; exact DataW.trod_lt m _ _ _ hm
  have w1 : StructsIs [.int .i64, .int .i64, .int .i64, .int .i64, .int .i64] W a1 len1 cap1 := by
    obtain ⟨fuel, hf⟩ := h1
    refine structs_openF [[.int .i64], [.int .i64], [.int .i64], [.int .i64, .int .i64]] Try.underlying47 Try.underlying56 (by kernel_rfl) ?_ hf
    intro j seg hj
    match j, hj with
    | 0, hj => exact ⟨_, rfl, by cases hj; exact (.inl ⟨_, rfl, Try.underlying3⟩), by kernel_rfl, by cases hj; kernel_rfl⟩
    | 1, hj => exact ⟨_, rfl, by cases hj; exact (.inl ⟨_, rfl, Try.underlying3⟩), by kernel_rfl, by cases hj; kernel_rfl⟩
    | 2, hj => exact ⟨_, rfl, by cases hj; exact (.inl ⟨_, rfl, Try.underlying3⟩), by kernel_rfl, by cases hj; kernel_rfl⟩
    | 3, hj => exact ⟨_, rfl, by cases hj; exact (.inr ⟨_, Try.underlying49, by kernel_rfl, rfl, by
        intro j f hj
        match j, hj with
          | 0, hj => exact ⟨_, rfl, by cases hj; exact Try.underlying3⟩
          | 1, hj => exact ⟨_, rfl, by cases hj; exact Try.underlying3⟩
          | j + 2, hj => simp at hj⟩), by kernel_rfl, by cases hj; kernel_rfl⟩
    | j + 4, hj => simp at hj
  clear hA0 hval0
  refine (mplays_row a0 a1 len1 cap1 W w0 w1).mono fun e W' ⟨he, bel⟩ => ?_
  subst he
  exact ⟨_, rfl, _, _, _, [], _, [], hW', trodAll_mk1 (shut_bool Try.underlying4 _), (trodAll_cons_mk (shut_int Try.underlying3 w0) (trodAll_cons_mk (Below.trod laidOut (by kernel_rfl) (of_decide_eq_true (by kernel_rfl)) k1 bel lt1) trodAll_mk0)), rfl, bel.frame _, fun h => by cases h⟩

theorem over : Rows.mountPlaysRow.holds Try.pinned (OpenSpec.ofChange Rows.mountPlaysSpec) :=
  OpenClaim.holds_of_wide 8 Try.f8 rfl rfl rfl rfl rfl rfl rfl ⟨rfl, rfl, rfl, rfl, rfl⟩ rfl rfl rfl rfl rfl (by kernel_rfl) Try.func8 (by kernel_rfl)
    (of_decide_eq_true (by kernel_rfl)) (by unfold Func.isWrapper; first | (rw [if_pos (by decide +kernel)]; kernel_rfl) | (rw [if_neg (by decide +kernel)]; exact ⟨rfl, rfl⟩))
    (fun os started H enc _ => lifted os started H enc)

theorem proved : Rows.MountPlaysSaid := over
#print axioms proved
end Go.Proofs.Ytemoickagefjmaa.mountPlays
