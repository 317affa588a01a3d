/-
  TreeLive of layer 10 of the given program answers true, whatever its arguments are.
-/
import Derived.Test.YtnjfcedkfobbcaaRows
import Derived.Test.YtnjfcedkfobbcaaTreeLive
import Derived.Test.YtnjfcedkfobbcaaStructsF
import Derived.WalkKit
import Derived.ProofKit
import Derived.OpenShut
import Derived.ShutString
import Derived.ChangeOld
import Derived.Below
namespace Go.Proofs.Ytnjfcedkfobbcaa.treeLive
open Go.RowKit Go.ChangeShapes Go.WideShapes Go.ChangeAt
open Go.ChangeMaps (open_string shut_string)
set_option linter.unusedVariables false

theorem own : ownKnob Try.prog.godebug = none := by kernel_rfl
theorem laidOut : laidOutB Try.prog = true := by kernel_rfl

set_option maxRecDepth 100000 in
theorem lifted (os : Os) (started : os.Started) (H : Type) (enc : TypeId × Value → H) :
    ReturnsInHanded {} Try.checked os 7 .any (Rows.treeLiveSpec.pre6 enc Try.prog Try.f7 Rows.treeLiveRow.domain false) (Rows.treeLiveSpec.post enc Try.prog Try.f7 false true false false) := by
  refine returnsInHanded_of_change (C := Try.checked) own started (by kernel_rfl) Try.func7
    (ChangeSpec.witness6 (enc := enc) (C := Try.checked) false ⟨#[], #[.slice none 0 0], []⟩ 8 (by kernel_rfl) (by kernel_rfl) (by kernel_rfl) (by kernel_rfl)) ?_
  intro W base args ds gs before hval0 hW hcnd _
  have hval : ∀ (j : Nat) t v, Try.f7.params[j]? = some t → args[j]? = some v → Value.okWide Try.prog W .any base t v := hval0
  have hW' := hW
  obtain ⟨p, q, hA0, hV, rfl, hfz, hnd⟩ := hW
  have hA : DataW.TrodAll enc Try.prog W 0 (fun _ => true) true Try.f7.params.toList args.toList ds p := hA0
  rw [Try.params7] at hA hval
  obtain ⟨v0, vs0, d0, ds0, p0, q0, hargs, rfl, rfl, h0, r0⟩ := trodAll_cons hA
  obtain ⟨rfl, rfl, rfl⟩ := trodAll_nil r0
  obtain rfl : args = #[v0] := by cases args; simp_all
  obtain ⟨rfl, rfl⟩ := trodVars_none hV
  obtain ⟨a0, len0, cap0, rfl⟩ := okWide_slice Try.underlying22 (hval 0 22 v0 rfl rfl)
  have k0 := h0
  have lt0 : ∀ x ∈ p0, x.block < W.heap.size := by obtain ⟨m, hm⟩ := k0; exact DataW.trod_lt m _ _ _ hm
  have w0 : StructsIs [.int .i64, .int .i64, .int .i64, .int .i64, .str, .str, .int .i64, .int .i64, .int .i64, .int .i64, .int .i64, .int .i64, .int .i64, .bytes] W a0 len0 cap0 := by
    obtain ⟨fuel, hf⟩ := h0
    refine structs_openF [[.int .i64], [.int .i64], [.int .i64], [.int .i64], [.str], [.str], [.int .i64, .int .i64, .int .i64, .int .i64, .int .i64, .int .i64, .int .i64], [.bytes]] Try.underlying22 Try.underlying31 (by kernel_rfl) ?_ hf
    intro j seg hj
    match j, hj with
    | 0, hj => exact ⟨_, rfl, by cases hj; exact (.inl ⟨_, rfl, Try.underlying3⟩), by kernel_rfl, by cases hj; kernel_rfl⟩
    | 1, hj => exact ⟨_, rfl, by cases hj; exact (.inl ⟨_, rfl, Try.underlying3⟩), by kernel_rfl, by cases hj; kernel_rfl⟩
    | 2, hj => exact ⟨_, rfl, by cases hj; exact (.inl ⟨_, rfl, Try.underlying3⟩), by kernel_rfl, by cases hj; kernel_rfl⟩
    | 3, hj => exact ⟨_, rfl, by cases hj; exact (.inl ⟨_, rfl, Try.underlying3⟩), by kernel_rfl, by cases hj; kernel_rfl⟩
    | 4, hj => exact ⟨_, rfl, by cases hj; exact (.inl ⟨_, rfl, Try.underlying9⟩), by kernel_rfl, by cases hj; kernel_rfl⟩
    | 5, hj => exact ⟨_, rfl, by cases hj; exact (.inl ⟨_, rfl, Try.underlying9⟩), by kernel_rfl, by cases hj; kernel_rfl⟩
    | 6, hj => exact ⟨_, rfl, by cases hj; exact (.inr ⟨_, Try.underlying28, by kernel_rfl, rfl, by
        intro j f hj
        match j, hj with
          | 0, hj => exact ⟨_, rfl, by cases hj; exact Try.underlying3⟩
          | 1, hj => exact ⟨_, rfl, by cases hj; exact Try.underlying3⟩
          | 2, hj => exact ⟨_, rfl, by cases hj; exact Try.underlying3⟩
          | 3, hj => exact ⟨_, rfl, by cases hj; exact Try.underlying3⟩
          | 4, hj => exact ⟨_, rfl, by cases hj; exact Try.underlying3⟩
          | 5, hj => exact ⟨_, rfl, by cases hj; exact Try.underlying3⟩
          | 6, hj => exact ⟨_, rfl, by cases hj; exact Try.underlying3⟩
          | j + 7, hj => simp at hj⟩), by kernel_rfl, by cases hj; kernel_rfl⟩
    | 7, hj => exact ⟨_, rfl, by cases hj; exact (.inl ⟨_, rfl, ⟨_, Try.underlying29, Try.underlying5, by kernel_rfl⟩⟩), by kernel_rfl, by cases hj; kernel_rfl⟩
    | j + 8, hj => simp at hj
  clear hA0 hval0
  refine (live_walk a0 len0 cap0 W w0).mono fun e W' ⟨he, bel⟩ => ?_
  subst he
  exact ⟨_, rfl, _, _, _, [], _, [], hW', trodAll_mk1 (shut_bool Try.underlying4 _), (trodAll_cons_mk (Below.trod laidOut (by kernel_rfl) (of_decide_eq_true (by kernel_rfl)) k0 bel lt0) trodAll_mk0), rfl, bel.frame _, fun h => by cases h⟩

theorem over : Rows.treeLiveRow.holds Try.pinned (OpenSpec.ofChange Rows.treeLiveSpec) :=
  OpenClaim.holds_of_wide 7 Try.f7 rfl rfl rfl rfl rfl rfl rfl ⟨rfl, rfl, rfl, rfl, rfl⟩ rfl rfl rfl rfl rfl (by kernel_rfl) Try.func7 (by kernel_rfl)
    (of_decide_eq_true (by kernel_rfl)) (by unfold Func.isWrapper; first | (rw [if_pos (by decide +kernel)]; kernel_rfl) | (rw [if_neg (by decide +kernel)]; exact ⟨rfl, rfl⟩))
    (fun os started H enc _ => lifted os started H enc)

theorem proved : Rows.TreeLiveSaid := over
#print axioms proved
end Go.Proofs.Ytnjfcedkfobbcaa.treeLive
