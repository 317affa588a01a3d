/-
  Hold; Loose; Write.
-/
import Derived.Test.YtnjfcedkfobbcaaTreeB
import Derived.Test.YtnjfcedkfobbcaaLaws
namespace Go.Proofs.Ytnjfcedkfobbcaa
open Go Go.RowKit
set_option linter.unusedSectionVars false
set_option linter.unusedSimpArgs false
set_option linter.unusedVariables false
set_option maxRecDepth 100000

set_option maxHeartbeats 1600000 in
theorem thold_c {w : World} {tb : Nat} {s : TShape} {T : TreeV} {bl : Int} (h : TreeIn w tb s T) (hg : T.good bl) (hs : T.small 900000) (n : Int) :
    Calls Try.prog 19 #[.pointer (some ⟨tb, 0, none⟩), .int .i64 n] w fun e w' => e = .returned (.int .i64 (T.hold n).2) ∧ ∃ s', TreeIn w' tb s' (T.hold n).1 ∧ TurnT w s w' s' := by
  have c0 := h.hcells.all
  cases hx : aget T.all n with
  | none =>
    rw [show T.hold n = (T, 1) by unfold TreeV.hold; rw [hx]]
    have l := look_none h hx
    have H := Lib.hid h
    clear h hx hg hs
    go_enter Try.func19, Try.ntmps19
    go_wp2
    go_ret
    exact ⟨rfl, s, H.out, TurnT.same (Keep.refl _ _)⟩
  | some x =>
    rw [show T.hold n = (T.set n { x with holds := x.holds + 1 }, 0) by unfold TreeV.hold; rw [hx]]
    have l := look_some h hx
    have c1 := (h.cells hx).holds
    have f1 := h.nodeFree hx 10
    have h1 := (hs.node hx).1
    have h0 := hg.ok.holds _ (aget_memN hx)
    simp only at h0
    have H := Lib.hid (And.intro h hx)
    clear h hx hg hs
    go_enter Try.func19, Try.ntmps19
    go_wp2
    go_ret
    have s3 := heap_setCell_eq (off := 10) (Value.int .i64 (x.holds + 1)) (H.out.1.node_at H.out.2)
    refine ⟨rfl, s, H.out.1.setNode H.out.2 rfl rfl (Keep.setCell _ _ _) ?_, TurnT.same ((Keep.setCell _ _ _).mono (fun b q => by rw [show b = s.na n from q]; exact has_of (H.out.1.tnode H.out.2)))⟩
    simpa [nodeC, namesB] using s3

set_option maxHeartbeats 1600000 in
theorem tloose_c {w : World} {tb : Nat} {s : TShape} {T : TreeV} {bl : Int} (h : TreeIn w tb s T) (hg : T.good bl) (hs : T.small 900000) (n : Int) :
    Calls Try.prog 21 #[.pointer (some ⟨tb, 0, none⟩), .int .i64 n] w fun e w' => e = .returned (.int .i64 (T.loose n).2) ∧ ∃ s', TreeIn w' tb s' (T.loose n).1 ∧ TurnT w s w' s' := by
  have c0 := h.hcells.all
  cases hx : aget T.all n with
  | none =>
    rw [show T.loose n = (T, 1) by unfold TreeV.loose; rw [hx]]
    have l := look_none h hx
    have H := Lib.hid h
    clear h hx hg hs
    go_enter Try.func21, Try.ntmps21
    go_wp2
    go_ret
    exact ⟨rfl, s, H.out, TurnT.same (Keep.refl _ _)⟩
  | some x =>
    have l := look_some h hx
    have c1 := (h.cells hx).holds
    have f1 := h.nodeFree hx 10
    have h1 := (hs.node hx).1
    have h0 := hg.ok.holds _ (aget_memN hx)
    simp only at h0
    by_cases hz : x.holds = 0
    · rw [show T.loose n = (T, 16) by unfold TreeV.loose; rw [hx]; simp only [hz, if_true]]
      have H := Lib.hid h
      simp only [hz] at c1
      clear h hx hg hs
      go_enter Try.func21, Try.ntmps21
      go_wp2
      go_ret
      exact ⟨rfl, s, H.out, TurnT.same (Keep.refl _ _)⟩
    · rw [show T.loose n = ((T.set n { x with holds := x.holds - 1 }).drop n, 0) by unfold TreeV.loose; rw [hx]; simp only [hz, if_false]]
      have g1 : (x.holds == 0) = false := by simpa using hz
      have s3 := heap_setCell_eq (off := 10) (Value.int .i64 (x.holds - 1)) (h.node_at hx)
      have h3 := h.setNode (x' := { x with holds := x.holds - 1 }) hx rfl rfl (Keep.setCell w ⟨s.na n, 10, none⟩ (.int .i64 (x.holds - 1))) (by simpa [nodeC, namesB] using s3)
      have k3 : Keep w (w.setCell ⟨s.na n, 10, none⟩ (.int .i64 (x.holds - 1))) s.has := (Keep.setCell _ _ _).mono (fun b q => by rw [show b = s.na n from q]; exact has_of (h.tnode hx))
      have hdr := tdrop_c (x := { x with holds := x.holds - 1 }) h3 hg.pool (n := n) (by show aget (aset T.all n _) n = _; rw [aget_aset, if_pos rfl]) ⟨hs.turns.1, by have := hs.turns.2; show T.turns ≤ _; omega⟩
      have H := Lib.hid k3
      clear h hx hg hs h3 k3 s3 hz
      go_enter Try.func21, Try.ntmps21
      go_wp2_with (
        go_at_call 43
        refine hdr.mono ?_
        rintro e w4 ⟨⟨v, rfl⟩, s', i1, i2, i3, i4⟩
        have N := Lib.hid (And.intro i1 i4)
        clear hdr i1 i2 i3 i4)
      go_ret
      exact ⟨rfl, s', N.out.1, (TurnT.same H.out).trans N.out.2⟩

set_option maxHeartbeats 1600000 in
theorem twrite_c {w : World} {tb : Nat} {s : TShape} {T : TreeV} {bl : Int} (h : TreeIn w tb s T) (hg : T.good bl) (n p : Int) {v : Value} {l : List Int} (hb : BytesIn w v l s.has) (hlen : l.length ≤ maxLen) :
    Calls Try.prog 20 #[.pointer (some ⟨tb, 0, none⟩), .int .i64 n, .int .i64 p, v] w fun e w' => e = .returned (.int .i64 (T.write n p l).2) ∧ ∃ s', TreeIn w' tb s' (T.write n p l).1 ∧ TurnT w s w' s' := by
  have hD := h.aside (Keep.drew w (fun _ => False))
  have c0 := h.hcells.pool
  have hf : ∀ w', w' = w.drew → Calls Try.prog 42 #[.pointer (some ⟨tb, 0, none⟩), .int .i64 n] w' fun e w2 => e = .returned (.int .i64 (T.fileOf n)) ∧ w' = w2 := fun w' q => by rw [q]; exact tfile_c hD n
  have hw : ∀ w', w' = w.drew → Calls Try.prog 41 #[.pointer (some ⟨s.pb, 0, none⟩), .int .i64 (T.fileOf n), .int .i64 p, v] w' fun r w2 => r = .returned (.int .i64 (T.pool.write (T.fileOf n) p l).2) ∧ ∃ S', PoolAt w2 s.pb S' (T.pool.write (T.fileOf n) p l).1 ∧ Turn w' (fun b => s.tag b = some .pool) w2 S' :=
    fun w' q => by rw [q]; exact write_c hD.pool hg.pool _ _ ((hb.keep (Keep.drew w (fun _ => False)) (fun _ q => q.elim)).mono (fun b q => has_of q)) hlen
  have H := Lib.hid hD
  unfold TreeV.write
  clear h hg hb hD
  go_enter Try.func20, Try.ntmps20
  go_wp2
  go_region_held3 (fun w' => w'.cell? ⟨tb, 1, none⟩ = some (.pointer (some ⟨s.pb, 0, none⟩))) (go_keep) (first
    | (go_at_call 42
       refine (hf _ rfl).mono ?_
       rintro e w4 ⟨rfl, rfl⟩)
    | (go_at_call 41
       refine (hw _ rfl).mono ?_
       rintro e w4 ⟨rfl, S4, hP4, hT4⟩
       have hT := H.out.setPool hP4 hT4
       have q0 := hT4.keep.cell (show w.drew.cell? ⟨tb, 1, none⟩ = _ from c0) (fun q => by rw [H.out.tTree] at q; cases q)
       have N := Lib.hid (And.intro hT hT4)))
  all_goals go_wp2
  all_goals go_ret
  all_goals exact ⟨rfl, s.pooled S4, N.out.1.1, (Keep.drew w s.has).trans N.out.2.keep (fun b q => .inl (has_of q)), N.out.1.2⟩

end Go.Proofs.Ytnjfcedkfobbcaa
