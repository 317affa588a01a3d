/-
  Has, Drop, Oldest, Pin, Unpin.
-/
import Derived.Test.YtjicoebcmfnooaaDoorLru1
namespace Go.Proofs.YtjicoebcmfnooaaDoor
open Go Go.RowKit
set_option linter.unusedSectionVars false
set_option linter.unusedSimpArgs false
set_option linter.unusedVariables false

theorem idx_none {L : List Pair} {key : ByteArray} (h : aget L key = none) : idxT L key = -1 := by unfold idxT; rw [atT_none h]
theorem idx_some {L : List Pair} {key : ByteArray} {p : Int} (h : aget L key = some p) : ∃ k : Nat, idxT L key = k ∧ L[k]? = some (key, p) ∧ k < L.length ∧ L.eraseIdx k = adel L key := by
  obtain ⟨k, h1, h2, h3, h4⟩ := atT_some h
  exact ⟨k, by unfold idxT; rw [h1], h2, h4, by rw [List.eraseIdx_eq_take_drop_succ]; exact h3⟩

theorem ent_one (L : List Pair) : ∀ u ∈ flat entV L, u.oneCell' = true := by
  intro u hu
  unfold flat at hu
  obtain ⟨x, _, hx⟩ := List.mem_flatMap.1 hu
  unfold entV at hx
  simp at hx
  rcases hx with rfl | rfl <;> rfl

theorem adel_nodup {L : List Pair} (h : (L.map Prod.fst).Nodup) (key : ByteArray) : ((adel L key).map Prod.fst).Nodup := h.sublist ((adel_sub L key).map Prod.fst)

theorem adel_none {L : List Pair} {key : ByteArray} (h : aget L key = none) : adel L key = L := by
  induction L with
  | nil => rfl
  | cons x r ih =>
    obtain ⟨a, u⟩ := x
    simp only [aget] at h
    split at h
    · simp at h
    · rename_i e
      simp only [adel, e, if_false]
      rw [ih h]

theorem flat_erase (L : List Pair) (k : Nat) : (flat entV L).take (k * 2) ++ (flat entV L).drop ((k + 1) * 2) = flat entV (L.eraseIdx k) := by
  rw [← flat_take entV 2 entV_len, ← flat_drop entV 2 entV_len, ← flat_append, List.eraseIdx_eq_take_drop_succ]

set_option maxHeartbeats 1000000 in
theorem drop_c {w : World} {lb : Nat} {S : Nat → Prop} {most : Int} {L : List Pair} (h : ListAt w lb S most L) (hl : L.length ≤ 1000000) (key : ByteArray) :
    Calls Tryd.prog 26 #[.pointer (some ⟨lb, 0, none⟩), .string key] w fun r w' => r = .returned (.bool (aget L key).isSome) ∧ ListAt w' lb S most (adel L key) ∧ Keep w w' S := by
  have hf := find_c h hl key
  cases hg : aget L key with
  | none =>
    rw [idx_none hg] at hf
    have H := Lib.hid (And.intro h (adel_none hg))
    clear hg h
    go_enter Tryd.func26, Tryd.ntmps26
    go_wp2_with (
      go_at_call 38
      refine hf.mono ?_
      rintro e w2 ⟨rfl, hk2⟩
      have K2 := Lib.hid hk2
      clear hf hk2)
    go_ret
    exact ⟨rfl, by rw [H.out.2]; exact H.out.1.aside K2.out, K2.out.mono (fun _ q => q.elim)⟩
  | some p =>
    obtain ⟨k, h1, h2, h3, h4⟩ := idx_some hg
    rw [h1] at hf
    obtain ⟨v, hb, hr, hS, hlb⟩ := h.ex
    obtain ⟨sa, cap, rfl, hcap⟩ := rows_val2 hr
    obtain ⟨g, rfl, _, _, hgl⟩ := rows_some hr (by omega)
    obtain ⟨n, hn⟩ : ∃ n, L.length = n + 1 := ⟨L.length - 1, by omega⟩
    rw [hn] at hb hr hcap h3 hl
    have H := Lib.hid (And.intro h (And.intro hb (And.intro hr (And.intro hS (And.intro hlb (And.intro hn h4))))))
    clear hg h1 h2 h4 hb hr hS hlb h hn
    have hge : (0 : Int) ≤ (k : Int) := by omega
    go_enter Tryd.func26, Tryd.ntmps26
    go_wp2_with (first
      | (go_at_call 38
         refine hf.mono ?_
         rintro e w2 ⟨rfl, hk2⟩
         have K2 := Lib.hid hk2
         have c1 : w2.cell? ⟨lb, 1, none⟩ = some (.slice (some ⟨g, 0, none⟩) (n + 1) cap) := by rw [cell_blk (hk2.get H.out.2.1 (fun q => q))]; rfl
         have hd := del_c (rows_keep H.out.2.2.1 hk2 (fun _ _ q => q)) h3 (ent_one L)
         clear hf hk2)
      | (go_at_call 39
         refine hd.mono ?_
         rintro e w3 ⟨rfl, q1, q2⟩
         have hne : lb ≠ g := fun e => (H.out.2.2.2.1 g rfl).2 e.symm
         have hb3 := q2.get (K2.out.get H.out.2.1 (fun q => q)) hne
         have K3 := Lib.hid (And.intro q1 (And.intro q2 (And.intro hb3 hne)))
         have f1 : w3.frozen? ⟨lb, 1, none⟩ = false := free_blk hb3 _
         have c2 : w3.cell? ⟨lb, 1, none⟩ = some (.slice (some ⟨g, 0, none⟩) (n + 1) cap) := by rw [cell_blk hb3]; rfl
         clear hd q1 q2 hb3 hne))
    go_ret
    obtain ⟨q1, q2, hb3, hne⟩ := K3.out
    obtain ⟨hL, hb, hr, hS, hlb, hn, h4⟩ := H.out
    have hSg := (hS g rfl).1
    have e5 := heap_setCell_eq (.slice (some ⟨g, 0, none⟩) n cap) (off := 1) hb3
    have k5 := Keep.setCell w3 ⟨lb, 1, none⟩ (.slice (some ⟨g, 0, none⟩) n cap)
    have kk : Keep w (w3.setCell ⟨lb, 1, none⟩ (.slice (some ⟨g, 0, none⟩) n cap)) S := ((K2.out.mono (T := S) (fun _ q => q.elim)).trans q2 (fun b q => .inl (by rw [show b = g from q]; exact hSg))).trans k5 (fun b q => .inl (by rw [show b = lb from q]; exact hlb))
    have hlen : (adel L key).length = n := by rw [← h4, List.length_eraseIdx]; simp only [hn, h3, if_true]; omega
    refine ⟨rfl, ⟨⟨_, e5, ?_, fun b q => ?_, hlb⟩, fun b q => Nat.lt_of_lt_of_le (hL.lt b q) kk.size, adel_nodup hL.nodup key⟩, kk⟩
    · rw [hlen, ← h4, ← flat_erase]
      exact rows_keep q1 k5 (fun b q z => by
        have : b = g := by simpa [Value.ownBlock] using q.symm
        exact hne (by rw [← show b = lb from z, this]))
    · exact hS b q

end Go.Proofs.YtjicoebcmfnooaaDoor
