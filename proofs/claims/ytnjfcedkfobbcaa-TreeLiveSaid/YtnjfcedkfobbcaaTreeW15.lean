/-
  New.
-/
import Derived.Test.YtnjfcedkfobbcaaTreeW10
namespace Go.Proofs.Ytnjfcedkfobbcaa
open Go Go.RowKit
set_option linter.unusedSectionVars false
set_option linter.unusedSimpArgs false
set_option linter.unusedVariables false
set_option maxRecDepth 100000

theorem mask_root : maskV 493 = 493 := by decide

open Classical in
/-- The shape of a tree without nodes. -/
noncomputable def newS (w1 : World) (pb : Nat) (S : Nat → Prop) : TShape :=
  ⟨w1.heap.size, pb, fun _ => 0, fun _ => 0, fun c => if c = w1.heap.size + 1 then some .tree else if c = w1.heap.size then some .all else if S c then some .pool else none⟩

open Classical in
set_option maxHeartbeats 1600000 in
theorem tnew_c (w : World) (n b : Int) (hn : 1 ≤ n ∧ n ≤ 64) (hb : 0 ≤ b ∧ b ≤ 256) :
    Calls Try.prog 9 #[.int .i64 n, .int .i64 b] w fun e w' => ∃ tb s, e = .returned (.tuple #[.pointer (some ⟨tb, 0, none⟩), .int .i64 0]) ∧ TreeIn w' tb s (TreeV.new n b) ∧ Keep w w' (fun _ => False) ∧ ∀ c, s.has c → w.heap.size ≤ c := by
  have hnew := new_c w b hb.1 hb.2
  have hmm := @run_makeMap Try.prog
  obtain ⟨hn1, hn2⟩ := hn
  have HB := Lib.hid hb
  clear hb
  go_enter Try.func9, Try.ntmps9
  go_upto_region 5 with (
    go_at_call 28
    refine hnew.mono ?_
    rintro e w1 ⟨pb, S, rfl, hP, hT⟩
    have P := Lib.hid (And.intro hP hT)
    unfold ptr
    clear hP hT hnew)
  obtain ⟨w2, hw2⟩ : ∃ w2, w2 = (w1.alloc (.map #[] 0)).alloc (.cells #[.int .i64 n, .pointer (some ⟨pb, 0, none⟩), .map (some w1.heap.size), .int .i64 0, .int .i64 0] 65) := ⟨_, rfl⟩
  obtain ⟨k2, b1, b2, z2⟩ := boxes2 w1 (.map #[] 0) (.cells #[.int .i64 n, .pointer (some ⟨pb, 0, none⟩), .map (some w1.heap.size), .int .i64 0, .int .i64 0] 65)
  rw [← hw2] at k2 b1 b2 z2 ⊢
  clear hw2
  have h2 : TreeIn w2 (w1.heap.size + 1) (newS w1 pb S) ⟨n, 0, 0, [], ⟨b, 0, []⟩⟩ := by
    have hlt : ∀ c, S c → c < w1.heap.size := fun c q => P.out.1.lt q
    have e : (fun c => (newS w1 pb S).tag c = some TTag.pool) = S := by
      funext c
      apply propext
      show (if c = w1.heap.size + 1 then some TTag.tree else if c = w1.heap.size then some TTag.all else if S c then some TTag.pool else none) = some TTag.pool ↔ S c
      refine ⟨fun q => ?_, fun q => ?_⟩
      · split at q
        · cases q
        · split at q
          · cases q
          · split at q
            · assumption
            · cases q
      · have := hlt c q
        rw [if_neg (by omega), if_neg (by omega), if_pos q]
    refine ⟨b2, MapAt.made b1, by simp, by simp, ?_, ?_, ?_, by simp, by simp, fun c g q => ?_⟩
    · rw [e]
      exact P.out.1.keep k2 (fun _ _ q => q)
    · show (if w1.heap.size + 1 = w1.heap.size + 1 then some TTag.tree else _) = _
      rw [if_pos rfl]
    · show (if w1.heap.size = w1.heap.size + 1 then some TTag.tree else if w1.heap.size = w1.heap.size then some TTag.all else _) = _
      rw [if_neg (by omega), if_pos rfl]
    · have q' : (if c = w1.heap.size + 1 then some TTag.tree else if c = w1.heap.size then some TTag.all else if S c then some TTag.pool else none) = some g := q
      split at q'
      · omega
      · split at q'
        · omega
        · split at q'
          · rename_i z
            have := hlt c z
            omega
          · cases q'
  have kw2 : Keep w w2 (fun _ => False) := P.out.2.keep.trans k2 (fun _ q => q.elim)
  have hnewS : ∀ c, (newS w1 pb S).has c → w.heap.size ≤ c := fun c q => by
    have hz := P.out.2.keep.size
    by_cases q1 : c = w1.heap.size + 1
    · omega
    · by_cases q2 : c = w1.heap.size
      · omega
      · by_cases q3 : S c
        · rcases P.out.2.new c q3 with z | z
          · exact z.elim
          · exact z
        · exfalso
          apply q
          show (if c = w1.heap.size + 1 then some TTag.tree else if c = w1.heap.size then some TTag.all else if S c then some TTag.pool else none) = none
          rw [if_neg q1, if_neg q2, if_neg q3]
  have hadd := tadd_c h2 (PoolV.new_ok HB.out.1 HB.out.2) ⟨by show (0:Int) ≤ 0; decide, by show (0:Int) ≤ 1000000; decide⟩ (by show (0:Int) ≤ 1000000; decide) (by simp) ⟨0, 1, 493, 0, 0, 0, 0⟩ ByteArray.empty
  unfold statC at hadd
  have D := Lib.hid (And.intro kw2 hnewS)
  clear h2 kw2 hnewS k2 b1 b2
  go_wp2_with (
    go_at_call 29
    refine hadd.mono ?_
    rintro e w3 ⟨s3, rfl, i1, i2, i3⟩
    have hx3 := add_get ⟨n, 0, 0, [], ⟨b, 0, []⟩⟩ 1 (maskV 493) 0 0 ByteArray.empty
    have c8 := (i1.cells hx3).up
    have f8 := i1.nodeFree hx3 8
    have N := Lib.hid (And.intro i1 (And.intro i3 hx3))
    clear hadd i1 i2 i3 hx3
    obtain ⟨nb, hnb⟩ : ∃ nb, s3.na ((⟨n, 0, 0, [], ⟨b, 0, []⟩⟩ : TreeV).made + 1) = nb := ⟨_, rfl⟩
    rw [hnb] at c8 f8 ⊢
    have HNB := Lib.hid hnb
    clear hnb)
  go_ret2
  have hnb := HNB.out
  subst hnb
  have s8 := heap_setCell_eq (off := 8) (Value.int .i64 1) (N.out.1.node_at N.out.2.2)
  have h4 := N.out.1.setNode (x' := ⟨1, maskV 493, 0, 0, [], 1, 0, 0, ByteArray.empty, 0⟩) N.out.2.2 rfl rfl (Keep.setCell _ _ _) (by simpa [nodeC, namesB] using s8)
  refine ⟨w1.heap.size + 1, s3, rfl, ?_, ?_, fun c q => ?_⟩
  · have e : ((⟨n, 0, 0, [], ⟨b, 0, []⟩⟩ : TreeV).add 1 (maskV 493) 0 0 ByteArray.empty).set ((⟨n, 0, 0, [], ⟨b, 0, []⟩⟩ : TreeV).made + 1) ⟨1, maskV 493, 0, 0, [], 1, 0, 0, ByteArray.empty, 0⟩ = TreeV.new n b := by
      rw [mask_root]
      rfl
    rw [e] at h4
    exact h4
  · exact (D.out.1.trans N.out.2.1.keep (fun b q => .inr (D.out.2 b q))).setNew _ _ (by
      have := N.out.1.tnode N.out.2.2
      rcases N.out.2.1.new _ (has_of this) with z | z
      · exact D.out.2 _ z
      · have := D.out.1.size; exact Nat.le_trans this z)
  · rcases N.out.2.1.new c q with z | z
    · exact D.out.2 c z
    · have := D.out.1.size; exact Nat.le_trans this z


theorem pnew_bad (w : World) (n : Int) (h : n < 0 ∨ 256 < n) : Calls Try.prog 28 #[.int .i64 n] w fun e w' => e = .returned (.tuple #[.pointer none, .int .i64 1]) ∧ w = w' := by
  by_cases h0 : n < 0
  · clear h
    go_enter Try.func28, Try.ntmps28
    go_wp2
    go_ret2
    exact ⟨rfl, rfl⟩
  · have h1 : 256 < n := by omega
    clear h
    go_enter Try.func28, Try.ntmps28
    go_wp2
    go_ret2
    exact ⟨rfl, rfl⟩

/-- New refuses. -/
theorem tnew_bad (w : World) (n b : Int) (h : n < 1 ∨ 64 < n ∨ b < 0 ∨ 256 < b) : Calls Try.prog 9 #[.int .i64 n, .int .i64 b] w fun e w' => e = .returned (.tuple #[.pointer none, .int .i64 1]) ∧ Keep w w' (fun _ => False) := by
  by_cases hb : b < 0 ∨ 256 < b
  · have hnew := pnew_bad w b hb
    clear h hb
    by_cases h1 : n < 1
    · go_enter Try.func9, Try.ntmps9
      go_wp2_with (
        go_at_call 28
        refine hnew.mono ?_
        rintro e w1 ⟨rfl, rfl⟩)
      go_ret2
      exact ⟨rfl, Keep.refl _ _⟩
    · by_cases h2 : 64 < n
      all_goals
        go_enter Try.func9, Try.ntmps9
        go_wp2_with (
          go_at_call 28
          refine hnew.mono ?_
          rintro e w1 ⟨rfl, rfl⟩)
        go_ret2
        exact ⟨rfl, Keep.refl _ _⟩
  · have hnew := new_c w b (by omega) (by omega)
    have hn : n < 1 ∨ 64 < n := by omega
    clear h hb
    by_cases h1 : n < 1
    · clear hn
      go_enter Try.func9, Try.ntmps9
      go_wp2_with (
        go_at_call 28
        refine hnew.mono ?_
        rintro e w1 ⟨pb, S, rfl, hP, hT⟩
        have K := Lib.hid hT.keep
        unfold ptr
        clear hP hT hnew)
      go_ret2
      exact ⟨rfl, K.out⟩
    · have h2 : 64 < n := by omega
      clear hn
      go_enter Try.func9, Try.ntmps9
      go_wp2_with (
        go_at_call 28
        refine hnew.mono ?_
        rintro e w1 ⟨pb, S, rfl, hP, hT⟩
        have K := Lib.hid hT.keep
        unfold ptr
        clear hP hT hnew)
      go_ret2
      exact ⟨rfl, K.out⟩

end Go.Proofs.Ytnjfcedkfobbcaa
