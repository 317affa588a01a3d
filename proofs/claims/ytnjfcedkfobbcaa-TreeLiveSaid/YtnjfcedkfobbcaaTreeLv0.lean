/-
  How often nodes are held, and what a call that is refused turns: nothing (plainly).
-/
import Derived.Test.YtnjfcedkfobbcaaTreeCnt0
namespace Go.Proofs.Ytnjfcedkfobbcaa
open Go Go.RowKit Go.Shelf
set_option linter.unusedSectionVars false
set_option linter.unusedSimpArgs false
set_option linter.unusedVariables false

theorem aset_keysN {κ α : Type} [DecidableEq κ] (L : List (κ × α)) (k : κ) (v : α) : (aset L k v).map Prod.fst = if k ∈ L.map Prod.fst then L.map Prod.fst else L.map Prod.fst ++ [k] := by
  induction L with
  | nil => simp [aset]
  | cons y r ih =>
    obtain ⟨a, u⟩ := y
    simp only [aset]
    by_cases q : a = k
    · rw [if_pos q]; simp [q]
    · rw [if_neg q]
      simp only [List.map_cons, ih, List.mem_cons, List.cons_append]
      have q2 : ¬ k = a := fun z => q z.symm
      simp only [q2, false_or]
      split <;> rfl
theorem aset_nodup {κ α : Type} [DecidableEq κ] {L : List (κ × α)} (h : (L.map Prod.fst).Nodup) (k : κ) (v : α) : ((aset L k v).map Prod.fst).Nodup := by
  rw [aset_keysN]
  split
  · exact h
  · rename_i q
    rw [List.nodup_append]
    refine ⟨h, by simp, ?_⟩
    intro a ha b hb e
    simp only [List.mem_singleton] at hb
    exact q (by rw [← hb, ← e]; exact ha)
theorem adel_nodupG {κ α : Type} [DecidableEq κ] {L : List (κ × α)} (h : (L.map Prod.fst).Nodup) (k : κ) : ((adel L k).map Prod.fst).Nodup := by
  have : List.Sublist (adel L k) L := by
    clear h
    induction L with
    | nil => exact List.Sublist.refl _
    | cons y r ih =>
      obtain ⟨a, u⟩ := y
      simp only [adel]
      split
      · exact List.sublist_cons_self _ _
      · exact ih.cons_cons _
  exact h.sublist (this.map _)

/-- How often a node is held. -/
def TreeV.holdsAt (T : TreeV) (n : Int) : Int := match aget T.all n with | none => 0 | some x => x.holds
structure Hd (T : TreeV) (H : Int → Int) : Prop where
  nd : (T.all.map Prod.fst).Nodup
  h : ∀ n, T.holdsAt n = H n
  pos : ∀ n, 0 ≤ H n

namespace Hd
variable {T : TreeV} {H : Int → Int} (h : Hd T H)
include h
theorem setd {L : List Nod} {n : Int} {x : NodeV} (hL : (L.map Prod.fst).Nodup ∧ ∀ m, (match aget L m with | none => 0 | some x => x.holds) = H m) (hx : x.holds = H n) :
    ((aset L n x).map Prod.fst).Nodup ∧ ∀ m, (match aget (aset L n x) m with | none => 0 | some x => x.holds) = H m := by
  refine ⟨aset_nodup hL.1 _ _, fun m => ?_⟩
  rw [aget_aset]
  by_cases q : n = m
  · rw [if_pos q]; simp only; rw [hx, q]
  · rw [if_neg q]; exact hL.2 m
theorem all : (T.all.map Prod.fst).Nodup ∧ ∀ m, (match aget T.all m with | none => 0 | some x => x.holds) = H m := ⟨h.nd, h.h⟩
theorem at_ {n : Int} {x : NodeV} (hx : aget T.all n = some x) : x.holds = H n := by
  have := h.h n
  unfold TreeV.holdsAt at this
  rw [hx] at this
  exact this
theorem turned (t : Int) : Hd { T with turns := t } H := ⟨h.nd, h.h, h.pos⟩
theorem add (hok : T.ok) (kind mode uid gid : Int) (text : ByteArray) : Hd (T.add kind mode uid gid text) H := by
  have hn : aget T.all (T.made + 1) = none := by
    cases hq : aget T.all (T.made + 1) with
    | none => rfl
    | some y => have := (hok.range _ (aget_memN hq)).2; simp only at this; omega
  have h0 : H (T.made + 1) = 0 := by
    have := h.h (T.made + 1)
    unfold TreeV.holdsAt at this
    rw [hn] at this
    exact this.symm
  have := h.setd (n := T.made + 1) (x := ⟨kind, mode, uid, gid, [], 0, 0, 0, text, if kind = 2 then T.pool.made + 1 else 0⟩) h.all h0.symm
  exact ⟨this.1, this.2, h.pos⟩
theorem give (d n : Int) (s : ByteArray) : Hd (T.give d s n) H := by
  unfold TreeV.give
  split
  · rename_i dx x h1 h2
    have a1 := h.setd (n := d) (x := { dx with names := aset dx.names s n }) h.all (h.at_ h1 :)
    have a2 := h.setd (n := n) (x := { x with links := x.links + 1, up := if x.kind = 1 then d else x.up }) a1 (h.at_ h2 :)
    exact ⟨a2.1, a2.2, h.pos⟩
  · exact h
theorem lose (d n : Int) (s : ByteArray) : Hd (T.loseName d s n) H := by
  unfold TreeV.loseName
  split
  · rename_i dx x h1 h2
    have a1 := h.setd (n := d) (x := { dx with names := adel dx.names s }) h.all (h.at_ h1 :)
    have a2 := h.setd (n := n) (x := { x with links := x.links - 1 }) a1 (h.at_ h2 :)
    exact ⟨a2.1, a2.2, h.pos⟩
  · exact h
theorem drop (n : Int) : Hd (T.drop n) H := by
  unfold TreeV.drop
  cases hx : aget T.all n with
  | none => exact h
  | some x =>
    dsimp only
    split
    · exact h
    · rename_i q
      have h0 := h.at_ hx
      have h1 := h.pos n
      have h2 : H n = 0 := by
        by_cases z : 0 < x.holds
        · exact absurd (.inr (.inr z)) q
        · omega
      refine ⟨adel_nodupG h.nd n, fun m => ?_, h.pos⟩
      unfold TreeV.holdsAt
      by_cases z : n = m
      · subst z; simp only; rw [aget_adel_eq h.nd, h2]
      · simp only; rw [aget_adel_ne z]; exact h.h m
theorem take (d n : Int) (s : ByteArray) : Hd (T.take d s n) H := ((h.lose d n s).turned (T.turns + 1)).drop n
theorem make {r : Bool} (hok : T.ok) (d : Int) (s : ByteArray) (kind mode uid gid : Int) (text : ByteArray) : Hd (T.make r d s kind mode uid gid text).1 H := by
  unfold TreeV.make
  cases T.dir d with
  | none => exact h
  | some x =>
    dsimp only
    repeat (split; · exact h)
    exact (h.add hok ..).give _ _ _
theorem join {r : Bool} (d : Int) (s : ByteArray) (n : Int) : Hd (T.join r d s n).1 H := by
  unfold TreeV.join
  cases T.dir d with
  | none => exact h
  | some dx =>
    cases aget T.all n with
    | none => exact h
    | some x =>
      dsimp only
      repeat (split; · exact h)
      exact h.give _ _ _
theorem part (d : Int) (s : ByteArray) : Hd (T.part d s).1 H := by
  unfold TreeV.part
  cases T.dir d with
  | none => exact h
  | some dx =>
    dsimp only
    cases aget dx.names s with
    | none => exact h
    | some n =>
      dsimp only
      cases aget T.all n with
      | none => exact h
      | some y =>
        dsimp only
        split
        · exact h
        · exact h.take ..
theorem move {r : Bool} (d : Int) (s : ByteArray) (e : Int) (z : ByteArray) : Hd (T.move r d s e z).1 H := by
  unfold TreeV.move
  cases T.dir d with
  | none => exact h
  | some dx =>
    cases T.dir e with
    | none => exact h
    | some ex =>
      dsimp only
      split
      · exact h
      cases aget dx.names s with
      | none => exact h
      | some n =>
        dsimp only
        repeat (split; · exact h)
        cases aget ex.names z with
        | none =>
          dsimp only
          split
          · exact h
          · exact (h.lose ..).give _ _ _
        | some m =>
          dsimp only
          repeat (split; · exact h)
          exact ((h.take ..).lose ..).give _ _ _
theorem setHd {n : Int} {x : NodeV} (v : Int) (hv : 0 ≤ v) : Hd (T.set n { x with holds := v }) (fun m => if m = n then v else H m) := by
  refine ⟨aset_nodup h.nd _ _, fun m => ?_, fun m => ?_⟩
  · unfold TreeV.holdsAt TreeV.set
    simp only
    rw [aget_aset]
    by_cases q : n = m
    · rw [if_pos q, if_pos q.symm]
    · rw [if_neg q, if_neg (fun z => q z.symm)]; exact h.h m
  · split
    · exact hv
    · exact h.pos m
/-- A node is held once more. -/
theorem hold (n : Int) (hk : (T.hold n).2 = 0) : Hd (T.hold n).1 (fun m => if m = n then H n + 1 else H m) ∧ n ∈ T.all.map Prod.fst := by
  unfold TreeV.hold at hk ⊢
  cases hx : aget T.all n with
  | none => rw [hx] at hk; simp at hk
  | some x =>
    dsimp only
    rw [h.at_ hx]
    exact ⟨h.setHd _ (by have := h.pos n; omega), List.mem_map_of_mem (f := Prod.fst) (aget_memN hx)⟩
theorem loose (n : Int) (hk : (T.loose n).2 = 0) : Hd (T.loose n).1 (fun m => if m = n then H n - 1 else H m) ∧ n ∈ T.all.map Prod.fst := by
  unfold TreeV.loose at hk ⊢
  cases hx : aget T.all n with
  | none => rw [hx] at hk; simp at hk
  | some x =>
    rw [hx] at hk
    dsimp only at hk ⊢
    by_cases q : x.holds = 0
    · rw [if_pos q] at hk; simp at hk
    · rw [if_neg q]
      have h0 := h.at_ hx
      rw [h0]
      exact ⟨(h.setHd (n := n) (x := x) (H n - 1) (by have := h.pos n; omega)).drop n, List.mem_map_of_mem (f := Prod.fst) (aget_memN hx)⟩
end Hd

/-! A call that is refused turned nothing; how many may be stays. -/
theorem give_most (T : TreeV) (d n : Int) (s : ByteArray) : (T.give d s n).most = T.most := by unfold TreeV.give; split <;> rfl
theorem lose_most (T : TreeV) (d n : Int) (s : ByteArray) : (T.loseName d s n).most = T.most := by unfold TreeV.loseName; split <;> rfl
theorem drop_most (T : TreeV) (n : Int) : (T.drop n).most = T.most := by
  unfold TreeV.drop
  cases aget T.all n with
  | none => rfl
  | some x => dsimp only; split <;> rfl
theorem take_most (T : TreeV) (d n : Int) (s : ByteArray) : (T.take d s n).most = T.most := by
  unfold TreeV.take
  rw [drop_most]
  exact lose_most T d n s
theorem make_kept (T : TreeV) {r : Bool} (d : Int) (s : ByteArray) (kind mode uid gid : Int) (text : ByteArray) : ((T.make r d s kind mode uid gid text).2.2 ≠ 0 → (T.make r d s kind mode uid gid text).1 = T) ∧ (T.make r d s kind mode uid gid text).1.most = T.most := by
  unfold TreeV.make
  cases T.dir d with
  | none => exact ⟨fun _ => rfl, rfl⟩
  | some x =>
    dsimp only
    repeat (split; · exact ⟨fun _ => rfl, rfl⟩)
    exact ⟨fun q => absurd rfl q, by rw [give_most]; rfl⟩
theorem join_kept (T : TreeV) {r : Bool} (d : Int) (s : ByteArray) (n : Int) : ((T.join r d s n).2 ≠ 0 → (T.join r d s n).1 = T) ∧ (T.join r d s n).1.most = T.most := by
  unfold TreeV.join
  cases T.dir d with
  | none => exact ⟨fun _ => rfl, rfl⟩
  | some dx =>
    cases aget T.all n with
    | none => exact ⟨fun _ => rfl, rfl⟩
    | some x =>
      dsimp only
      repeat (split; · exact ⟨fun _ => rfl, rfl⟩)
      exact ⟨fun q => absurd rfl q, give_most ..⟩
theorem part_kept (T : TreeV) (d : Int) (s : ByteArray) : ((T.part d s).2 ≠ 0 → (T.part d s).1 = T) ∧ (T.part d s).1.most = T.most := by
  unfold TreeV.part
  cases T.dir d with
  | none => exact ⟨fun _ => rfl, rfl⟩
  | some dx =>
    dsimp only
    cases aget dx.names s with
    | none => exact ⟨fun _ => rfl, rfl⟩
    | some n =>
      dsimp only
      cases aget T.all n with
      | none => exact ⟨fun _ => rfl, rfl⟩
      | some y =>
        dsimp only
        split
        · exact ⟨fun _ => rfl, rfl⟩
        · exact ⟨fun q => absurd rfl q, take_most ..⟩
theorem move_kept (T : TreeV) {r : Bool} (d : Int) (s : ByteArray) (e : Int) (z : ByteArray) : ((T.move r d s e z).2 ≠ 0 → (T.move r d s e z).1 = T) ∧ (T.move r d s e z).1.most = T.most := by
  unfold TreeV.move
  cases T.dir d with
  | none => exact ⟨fun _ => rfl, rfl⟩
  | some dx =>
    cases T.dir e with
    | none => exact ⟨fun _ => rfl, rfl⟩
    | some ex =>
      dsimp only
      split
      · exact ⟨fun _ => rfl, rfl⟩
      cases aget dx.names s with
      | none => exact ⟨fun _ => rfl, rfl⟩
      | some n =>
        dsimp only
        repeat (split; · exact ⟨fun _ => rfl, rfl⟩)
        cases aget ex.names z with
        | none =>
          dsimp only
          split
          · exact ⟨fun _ => rfl, rfl⟩
          · exact ⟨fun q => absurd rfl q, by rw [give_most, lose_most]⟩
        | some m =>
          dsimp only
          repeat (split; · exact ⟨fun _ => rfl, rfl⟩)
          exact ⟨fun q => absurd rfl q, by rw [give_most, lose_most, take_most]⟩
theorem hold_kept (T : TreeV) (n : Int) : ((T.hold n).2 ≠ 0 → (T.hold n).1 = T) ∧ (T.hold n).1.most = T.most := by
  unfold TreeV.hold
  cases aget T.all n with
  | none => exact ⟨fun _ => rfl, rfl⟩
  | some x => exact ⟨fun q => absurd rfl q, rfl⟩
theorem loose_kept (T : TreeV) (n : Int) : ((T.loose n).2 ≠ 0 → (T.loose n).1 = T) ∧ (T.loose n).1.most = T.most := by
  unfold TreeV.loose
  cases aget T.all n with
  | none => exact ⟨fun _ => rfl, rfl⟩
  | some x =>
    dsimp only
    split
    · exact ⟨fun _ => rfl, rfl⟩
    · exact ⟨fun q => absurd rfl q, by rw [drop_most]; rfl⟩

end Go.Proofs.Ytnjfcedkfobbcaa
