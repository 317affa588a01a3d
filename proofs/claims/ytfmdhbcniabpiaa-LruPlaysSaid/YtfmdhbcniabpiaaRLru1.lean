/-
  The document's list: New, Len, find, Has, Pin, Unpin, Oldest.
-/
import Derived.Test.YtfmdhbcniabpiaaLru6
import Derived.Test.YtfmdhbcniabpiaaLru3
namespace Go.Proofs.Ytfmdhbcniabpiaa
open Go Go.RowKit
set_option linter.unusedSectionVars false
set_option linter.unusedSimpArgs false
set_option linter.unusedVariables false

/-- The document's list in memory. -/
structure RefL (w : World) (rb : Nat) (S : Nat → Prop) (most : Int) (L : List Pair) : Prop where
  ex : ∃ v, w.heap[rb]? = some (.cells #[.int .i64 most, v] 58 (0, 0)) ∧ w.ownsRow 0 60 2 v L.length (flat entV L) ∧ (∀ b, v.ownBlock = some b → S b ∧ b ≠ rb) ∧ S rb
  lt : ∀ b, S b → b < w.heap.size

theorem RefL.keep {w w' : World} {lb : Nat} {S U : Nat → Prop} {most : Int} {L : List Pair} (h : RefL w lb S most L) (K : Keep w w' U) (hU : ∀ b, S b → ¬ U b) : RefL w' lb S most L := by
  obtain ⟨v, h1, h2, h3, h4⟩ := h.ex
  exact ⟨⟨v, K.get h1 (hU _ h4), rows_keep h2 K (fun b q => hU b (h3 b q).1), h3, h4⟩, fun b q => Nat.lt_of_lt_of_le (h.lt b q) K.size⟩

theorem RefL.aside {w w' : World} {lb : Nat} {S : Nat → Prop} {most : Int} {L : List Pair} (h : RefL w lb S most L) (K : Keep w w' (fun _ => False)) : RefL w' lb S most L := h.keep K (fun _ _ q => q)

theorem rnew_c (w : World) (m : Int) :
    Calls Try.prog 20 #[.int .i64 m] w fun r w' => ∃ lb S, r = .returned (.pointer (some ⟨lb, 0, none⟩)) ∧ RefL w' lb S m [] ∧ Turn w (fun _ => False) w' S := by
  go_enter Try.func20, Try.ntmps20
  go_wp2
  go_ret
  refine ⟨w.heap.size, fun b => b = w.heap.size, rfl, ⟨⟨.slice none 0 0, heap_alloc_eq _ _, rows_nil _ _ _, fun b q => by simp [Value.ownBlock] at q, rfl⟩, fun b q => ?_⟩, Keep.alloc _ _ _, fun b q => .inr (by rw [show b = w.heap.size from q]; exact Nat.le_refl _)⟩
  rw [show b = w.heap.size from q]
  show w.heap.size < (w.heap.push _).size
  rw [Array.size_push]
  omega

theorem rlen_c {w : World} {lb : Nat} {S : Nat → Prop} {most : Int} {L : List Pair} (h : RefL w lb S most L) :
    Calls Try.prog 26 #[.pointer (some ⟨lb, 0, none⟩)] w fun r w' => r = .returned (.int .i64 L.length) ∧ w' = w := by
  obtain ⟨v, h1, h2, h3, h4⟩ := h.ex
  obtain ⟨sa, cap, rfl, hc⟩ := rows_val2 h2
  have c0 : w.cell? ⟨lb, 1, none⟩ = some (.slice sa L.length cap) := by rw [cell_blk h1]; rfl
  clear h1 h2 h3 h4 h
  go_enter Try.func26, Try.ntmps26
  go_wp2
  go_ret
  exact ⟨rfl, rfl⟩

set_option maxHeartbeats 1000000 in
theorem rfind_c {w : World} {rb : Nat} {S : Nat → Prop} {most : Int} {T : List Pair} (h : RefL w rb S most T) (hl : T.length ≤ 1000000) (key : ByteArray) :
    Calls Try.prog 33 #[.pointer (some ⟨rb, 0, none⟩), .string key] w fun r w' => r = .returned (.int .i64 (idxT T key)) ∧ w' = w := by
  obtain ⟨v, h1, h2, h3, h4⟩ := h.ex
  obtain ⟨sa, cap, rfl, hc⟩ := rows_val2 h2
  have c0 : w.cell? ⟨rb, 1, none⟩ = some (.slice sa T.length cap) := by rw [cell_blk h1]; rfl
  have H := Lib.hid h2
  generalize hz : idxT T key = z
  have HZ := Lib.hid hz
  generalize hn : T.length = n at *
  have HN := Lib.hid hn
  clear h h1 h2 h3 h4 hn hz
  go_enter Try.func33, Try.ntmps33
  go_wp2
  go_loopg [5] n (fun g s3 wr => ∃ k : Nat, s3 = .int .i64 k ∧ k + g = n ∧ (∀ x ∈ T.take k, x.1 ≠ key) ∧ wr = w)
  case atStart => exact ⟨0, rfl, by omega, by simp, rfl⟩
  case round =>
    obtain ⟨k, rfl, hk, hne, rfl⟩ := hrel
    by_cases hlt : k < n
    · obtain ⟨g, rfl, _, _, _⟩ := rows_some H.out (by omega)
      obtain ⟨x, hx⟩ : ∃ x, T[k]? = some x := ⟨_, List.getElem?_eq_getElem (by rw [HN.out]; exact hlt)⟩
      have c1 : wr.cell? ⟨g, k * 2, none⟩ = some (.string x.1) := (rows_cell H.out (by rw [← Nat.add_zero (k * 2), flat_get entV 2 entV_len hx (by omega)]; rfl)).1
      have hlt' : (k : Int) < (n : Int) := by omega
      have NE := Lib.hid hne
      have HX := Lib.hid hx
      clear hne hx
      by_cases he : x.1 = key
      · have HE := Lib.hid he
        go_wp2
        go_ret
        exact ⟨by rw [← HZ.out, idx_found HX.out HE.out NE.out]; rfl, rfl⟩
      · have g1 : (x.1.toList == key.toList) = false := streq he
        have HE := Lib.hid he
        go_wp2
        go_roundg (n - (k + 1))
        case measure => omega
        case rel =>
          refine ⟨k + 1, rfl, by omega, ?_, rfl⟩
          intro y hy
          rw [List.take_add_one, HX.out] at hy
          rcases List.mem_append.1 hy with hy | hy
          · exact NE.out y hy
          · simp at hy; subst hy; exact HE.out
    · have hlt' : ¬ (k : Int) < (n : Int) := by omega
      have NE := Lib.hid hne
      clear hne
      go_wp2
      go_ret
      have e : idxT T key = -1 := idx_out fun y hy => NE.out y (by rw [List.take_of_length_le (by rw [HN.out]; omega)]; exact hy)
      exact ⟨by rw [← HZ.out, e]; rfl, rfl⟩

theorem rhas_c {w : World} {lb : Nat} {S : Nat → Prop} {most : Int} {L : List Pair} (h : RefL w lb S most L) (hl : L.length ≤ 1000000) (key : ByteArray) :
    Calls Try.prog 27 #[.pointer (some ⟨lb, 0, none⟩), .string key] w fun r w' => r = .returned (.bool (aget L key).isSome) ∧ w' = w := by
  have hf := rfind_c h hl key
  clear h
  cases hg : aget L key with
  | none =>
    rw [idx_none hg] at hf
    clear hg
    go_enter Try.func27, Try.ntmps27
    go_wp2_with (
      go_at_call 33
      refine hf.mono ?_
      rintro e w2 ⟨rfl, rfl⟩
      clear hf)
    go_ret
    exact ⟨rfl, rfl⟩
  | some p =>
    obtain ⟨k, h1, _, h3, _⟩ := idx_some hg
    rw [h1] at hf
    clear hg h1
    have hge : (0 : Int) ≤ (k : Int) := by omega
    go_enter Try.func27, Try.ntmps27
    go_wp2_with (
      go_at_call 33
      refine hf.mono ?_
      rintro e w2 ⟨rfl, rfl⟩
      clear hf)
    go_ret
    exact ⟨rfl, rfl⟩

/-- The cell of a pin is another one now. -/
theorem ref_set {w : World} {lb g n cap k : Nat} {S : Nat → Prop} {most p u : Int} {L : List Pair} {key : ByteArray} (h : RefL w lb S most L) (hb : w.heap[lb]? = some (.cells #[.int .i64 most, .slice (some ⟨g, 0, none⟩) n cap] 58 (0, 0)))
    (hr : w.ownsRow 0 60 2 (.slice (some ⟨g, 0, none⟩) n cap) n (flat entV L)) (hS : S g ∧ g ≠ lb) (hlb : S lb) (hn : L.length = n) (h2 : L[k]? = some (key, p)) :
    RefL (w.setCell ⟨g, k * 2 + 1, none⟩ (.int .i64 u)) lb S most (L.set k (key, u)) ∧ Keep w (w.setCell ⟨g, k * 2 + 1, none⟩ (.int .i64 u)) S := by
  have k5 := Keep.setCell w ⟨g, k * 2 + 1, none⟩ (.int .i64 u)
  have hset := rows_set hr (k * 2 + 1) (.int .i64 u)
  rw [flat_set entV 2 entV_len h2 (by omega) (y := (key, u)) rfl] at hset
  refine ⟨⟨⟨_, k5.get hb (fun e => hS.2 (show lb = g from e).symm), by rw [List.length_set, hn]; exact hset, fun b q => ?_, hlb⟩, fun b q => Nat.lt_of_lt_of_le (h.lt b q) k5.size⟩, k5.mono fun b q => by rw [show b = g from q]; exact hS.1⟩
  have e : g = b := by simpa [Value.ownBlock] using q
  rw [← e]; exact hS

set_option maxHeartbeats 1000000 in
theorem RPin_c {w : World} {lb : Nat} {S : Nat → Prop} {most : Int} {L : List Pair} (h : RefL w lb S most L) (hl : L.length ≤ 1000000) (key : ByteArray) (hp : ∀ p, aget L key = some p → 0 ≤ p ∧ p ≤ 1000000) :
    Calls Try.prog 23 #[.pointer (some ⟨lb, 0, none⟩), .string key] w fun r w' => r = .returned (.bool (setPins L key 1).2) ∧ RefL w' lb S most (setPins L key 1).1 ∧ Keep w w' S := by
  have hf := rfind_c h hl key
  unfold setPins
  cases hg : aget L key with
  | none =>
    rw [idx_none hg] at hf
    have H := Lib.hid h
    clear hg h hp
    go_enter Try.func23, Try.ntmps23
    go_wp2_with (
      go_at_call 33
      refine hf.mono ?_
      rintro e w2 ⟨rfl, rfl⟩
      clear hf)
    go_ret
    exact ⟨rfl, H.out, Keep.refl _ _⟩
  | some p =>
    obtain ⟨k, h1, h2, h3, h4⟩ := aset_at (u := p + 1) hg
    have hpb := hp p hg
    rw [h1] at hf
    obtain ⟨v, hb, hr, hS, hlb⟩ := h.ex
    obtain ⟨sa, cap, rfl, hcap⟩ := rows_val2 hr
    obtain ⟨g, rfl, _, _, hgl⟩ := rows_some hr (by omega)
    generalize hn : L.length = n at *
    have H := Lib.hid (And.intro h (And.intro hb (And.intro hr (And.intro (hS g rfl) (And.intro hlb (And.intro hn (And.intro h2 h4)))))))
    have c1 : w.cell? ⟨lb, 1, none⟩ = some (.slice (some ⟨g, 0, none⟩) n cap) := by rw [cell_blk hb]; rfl
    have c2 : w.cell? ⟨g, k * 2 + 1, none⟩ = some (.int .i64 p) := (rows_cell hr (by rw [flat_get entV 2 entV_len h2 (by omega)]; rfl)).1
    have f2 : w.frozen? ⟨g, k * 2 + 1, none⟩ = false := (rows_cell hr (by rw [flat_get entV 2 entV_len h2 (by omega)]; rfl)).2
    clear hg h1 h2 h4 hb hr hS hlb h hp hn
    have hge : ¬ (k : Int) < 0 := by omega
    have hlt' : (k : Int) < (n : Int) := by omega
    simp only
    rw [if_neg (by omega)]
    go_enter Try.func23, Try.ntmps23
    go_wp2_with (
      go_at_call 33
      refine hf.mono ?_
      rintro e w2 ⟨rfl, rfl⟩
      clear hf)
    go_ret
    obtain ⟨hL, hb, hr, hS, hlb, hn, h2, h4⟩ := H.out
    rw [← h4]
    exact ⟨rfl, ref_set hL hb hr hS hlb hn h2⟩

set_option maxHeartbeats 1000000 in
theorem RUnpin_c {w : World} {lb : Nat} {S : Nat → Prop} {most : Int} {L : List Pair} (h : RefL w lb S most L) (hl : L.length ≤ 1000000) (key : ByteArray) (hp : ∀ p, aget L key = some p → 0 ≤ p ∧ p ≤ 1000000) :
    Calls Try.prog 24 #[.pointer (some ⟨lb, 0, none⟩), .string key] w fun r w' => r = .returned (.bool (setPins L key (-1)).2) ∧ RefL w' lb S most (setPins L key (-1)).1 ∧ Keep w w' S := by
  have hf := rfind_c h hl key
  unfold setPins
  cases hg : aget L key with
  | none =>
    rw [idx_none hg] at hf
    have H := Lib.hid h
    clear hg h hp
    go_enter Try.func24, Try.ntmps24
    go_wp2_with (
      go_at_call 33
      refine hf.mono ?_
      rintro e w2 ⟨rfl, rfl⟩
      clear hf)
    go_ret
    exact ⟨rfl, H.out, Keep.refl _ _⟩
  | some p =>
    obtain ⟨k, h1, h2, h3, h4⟩ := aset_at (u := p + -1) hg
    have hpb := hp p hg
    rw [h1] at hf
    obtain ⟨v, hb, hr, hS, hlb⟩ := h.ex
    obtain ⟨sa, cap, rfl, hcap⟩ := rows_val2 hr
    obtain ⟨g, rfl, _, _, hgl⟩ := rows_some hr (by omega)
    generalize hn : L.length = n at *
    have H := Lib.hid (And.intro h (And.intro hb (And.intro hr (And.intro (hS g rfl) (And.intro hlb (And.intro hn (And.intro h2 h4)))))))
    have c1 : w.cell? ⟨lb, 1, none⟩ = some (.slice (some ⟨g, 0, none⟩) n cap) := by rw [cell_blk hb]; rfl
    have c2 : w.cell? ⟨g, k * 2 + 1, none⟩ = some (.int .i64 p) := (rows_cell hr (by rw [flat_get entV 2 entV_len h2 (by omega)]; rfl)).1
    have f2 : w.frozen? ⟨g, k * 2 + 1, none⟩ = false := (rows_cell hr (by rw [flat_get entV 2 entV_len h2 (by omega)]; rfl)).2
    clear hg h1 h2 h4 hb hr hS hlb h hp hn
    have hge : ¬ (k : Int) < 0 := by omega
    have hlt' : (k : Int) < (n : Int) := by omega
    simp only
    by_cases h0 : p = 0
    · subst h0
      rw [if_pos (by omega)]
      go_enter Try.func24, Try.ntmps24
      go_wp2_with (
        go_at_call 33
        refine hf.mono ?_
        rintro e w2 ⟨rfl, rfl⟩
        clear hf)
      go_ret
      exact ⟨rfl, H.out.1, Keep.refl _ _⟩
    · rw [if_neg (by omega)]
      have g0 : (p == 0) = false := by simpa using h0
      have hp1 : 1 ≤ p := by omega
      clear h0
      go_enter Try.func24, Try.ntmps24
      go_wp2_with (
        go_at_call 33
        refine hf.mono ?_
        rintro e w2 ⟨rfl, rfl⟩
        clear hf)
      go_ret
      obtain ⟨hL, hb, hr, hS, hlb, hn, h2, h4⟩ := H.out
      rw [← h4]
      exact ⟨rfl, ref_set hL hb hr hS hlb hn h2⟩

set_option maxHeartbeats 1000000 in
theorem roldest_c {w : World} {lb : Nat} {S : Nat → Prop} {most : Int} {L : List Pair} (h : RefL w lb S most L) (hl : L.length ≤ 1000000) (q : Int) :
    Calls Try.prog 28 #[.pointer (some ⟨lb, 0, none⟩), .int .i64 q] w fun r w' => ∃ v, r = .returned v ∧ Made w w' 9 v ((firsts L q).map Value.string) := by
  obtain ⟨v, h1, h2, h3, h4⟩ := h.ex
  obtain ⟨sa, cap, rfl, hc⟩ := rows_val2 h2
  have HB := Lib.hid h1
  have H := Lib.hid h2
  generalize hn : L.length = n at *
  have HN := Lib.hid hn
  obtain ⟨ti, ti1, ti2, ti3, ti4⟩ := str_info
  have HI := Lib.hid (And.intro ti1 (And.intro ti2 (And.intro ti3 ti4)))
  have hz1 : (Value.string ByteArray.empty).cells.size = 1 := rfl
  clear ti1 ti2 ti3 ti4 h h1 h2 h3 h4 hn
  go_enter Try.func28, Try.ntmps28
  go_wp2
  go_loopg [5, 6] n (fun g s5 s6 wr => ∃ k : Nat, s6 = .int .i64 k ∧ k + g = n ∧ (k = 0 ∨ (k : Int) ≤ q) ∧ Made w wr 9 s5 (((L.take k).map Prod.fst).map Value.string))
  case atStart => exact ⟨0, rfl, by omega, .inl rfl, by simpa using Made.nil w 9⟩
  case round =>
    obtain ⟨k, rfl, hk, hq, hM⟩ := hrel
    have hkl : k ≤ L.length := by rw [HN.out]; omega
    have hll : (((L.take k).map Prod.fst).map Value.string).length = k := by rw [List.length_map, List.length_map, List.length_take, Nat.min_eq_left hkl]
    have c0 : wr.cell? ⟨lb, 1, none⟩ = some (.slice sa n cap) := by rw [cell_blk (hM.keep.get HB.out (fun q => q))]; rfl
    have M := Lib.hid (And.intro hM hll)
    obtain ⟨a5, cap5, rfl⟩ := hM.valn hll
    clear hM hll hkl
    by_cases hlt : k < n
    · have hlt' : (k : Int) < (n : Int) := by omega
      obtain ⟨g, rfl, _, _, _⟩ := rows_some H.out (by omega)
      obtain ⟨x, hx⟩ : ∃ x, L[k]? = some x := ⟨_, List.getElem?_eq_getElem (by rw [HN.out]; exact hlt)⟩
      have c1 : wr.cell? ⟨g, k * 2, none⟩ = some (.string x.1) := M.out.1.keep.cell (rows_cell H.out (by rw [← Nat.add_zero (k * 2), flat_get entV 2 entV_len hx (by omega)]; rfl)).1 (fun q => q)
      have HX := Lib.hid hx
      clear hx
      by_cases hq2 : q ≤ k
      · have hq2' : ¬ (k : Int) < q := by omega
        have HQ := Lib.hid (show q.toNat = k by omega)
        go_wp2
        go_ret
        refine ⟨_, rfl, ?_⟩
        unfold firsts
        rw [HQ.out, ← List.map_take]
        exact M.out.1
      · have hq4 : (k : Int) < q := by omega
        go_wp2_with (
          at_builtin
          refine law_push rfl _ _ _ rfl Try.underlying22 HI.out.1 HI.out.2.1 HI.out.2.2.1 HI.out.2.2.2 hz1 M.out.1 rfl (.string x.1) rfl rfl M.out.2 (by omega) ?_
          intro a8 cap8 w8 hM8 _ _
          have M8 := Lib.hid hM8
          clear hM8)
        go_roundg (n - (k + 1))
        case measure => omega
        case rel =>
          refine ⟨k + 1, rfl, by omega, .inr (by omega), ?_⟩
          rw [List.take_add_one, HX.out]
          simpa using M8.out
    · have hlt' : ¬ (k : Int) < (n : Int) := by omega
      obtain rfl : k = n := by omega
      have hq5 := Lib.hid hq
      clear hq
      go_wp2
      go_ret
      refine ⟨_, rfl, ?_⟩
      have := M.out.1
      unfold firsts
      have e : (L.map Prod.fst).take q.toNat = (L.take k).map Prod.fst := by
        rcases hq5.out with h0 | h1
        · have : L = [] := List.length_eq_zero_iff.1 (by rw [HN.out]; exact h0)
          subst this; simp
        · rw [List.take_of_length_le (by rw [List.length_map, HN.out]; omega), List.take_of_length_le (by rw [HN.out]; exact Nat.le_refl _)]
      rw [e]
      exact this

end Go.Proofs.Ytfmdhbcniabpiaa
