/-
  Oldest, Pin, Unpin.
-/
import Derived.Test.YtfmdhbcniabpiaaLru2
namespace Go.Proofs.Ytfmdhbcniabpiaa
open Go Go.RowKit
set_option linter.unusedSectionVars false
set_option linter.unusedSimpArgs false
set_option linter.unusedVariables false

theorem str_info : ∃ i, Try.prog.info? 9 = some i ∧ i.zero = some (.string ByteArray.empty) ∧ i.size = 1 ∧ i.bytes ≤ 64 := by
  have h : (Try.prog.info? 9).map (fun i => (i.zero, i.size, i.bytes)) = some (some (.string ByteArray.empty), 1, 16) := by kernel_rfl
  cases hh : Try.prog.info? 9 with
  | none => rw [hh] at h; simp at h
  | some i =>
    rw [hh] at h
    simp only [Option.map_some, Option.some.injEq, Prod.mk.injEq] at h
    exact ⟨i, rfl, h.1, h.2.1, by omega⟩

/-- The first n keys. -/
def firsts (L : List Pair) (n : Int) : List ByteArray := (L.map Prod.fst).take n.toNat

set_option maxHeartbeats 1000000 in
theorem oldest_c {w : World} {lb : Nat} {S : Nat → Prop} {most : Int} {L : List Pair} (h : ListAt w lb S most L) (hl : L.length ≤ 1000000) (q : Int) :
    Calls Try.prog 13 #[.pointer (some ⟨lb, 0, none⟩), .int .i64 q] w fun r w' => ∃ v, r = .returned v ∧ Made w w' 9 v ((firsts L q).map Value.string) := by
  obtain ⟨v, h1, h2, h3, h4⟩ := h.ex
  obtain ⟨sa, cap, rfl, hc⟩ := rows_val2 h2
  have c0 : w.cell? ⟨lb, 1, none⟩ = some (.slice sa L.length cap) := by rw [cell_blk h1]; rfl
  have H := Lib.hid h2
  generalize hn : L.length = n at *
  have HN := Lib.hid hn
  obtain ⟨ti, ti1, ti2, ti3, ti4⟩ := str_info
  have HI := Lib.hid (And.intro ti1 (And.intro ti2 (And.intro ti3 ti4)))
  have hz1 : (Value.string ByteArray.empty).cells.size = 1 := rfl
  clear ti1 ti2 ti3 ti4 h h1 h2 h3 h4 hn
  go_enter Try.func13, Try.ntmps13
  go_wp2
  go_loopg [5, 7, 13] n (fun g s5 _ s13 wr => ∃ k : Nat, s13 = .int .i64 k ∧ k + g = n ∧ (k = 0 ∨ (k : Int) ≤ q) ∧ Made w wr 9 s5 (((L.take k).map Prod.fst).map Value.string))
  case atStart => exact ⟨0, rfl, by omega, .inl rfl, by simpa using Made.nil w 9⟩
  case round =>
    obtain ⟨k, rfl, hk, hq, hM⟩ := hrel
    have hkl : k ≤ L.length := by rw [HN.out]; omega
    have hll : (((L.take k).map Prod.fst).map Value.string).length = k := by rw [List.length_map, List.length_map, List.length_take, Nat.min_eq_left hkl]
    have M := Lib.hid (And.intro hM hll)
    obtain ⟨a5, cap5, rfl⟩ := hM.valn hll
    clear hM hll hkl
    by_cases hlt : k < n
    · have hlt' : (k : Int) < (n : Int) := by omega
      obtain ⟨g, rfl, _, _, _⟩ := rows_some H.out (by omega)
      obtain ⟨x, hx⟩ : ∃ x, L[k]? = some x := ⟨_, List.getElem?_eq_getElem (by rw [HN.out]; exact hlt)⟩
      have c1 : wr.cell? ⟨g, k * 2, none⟩ = some (.string x.1) := M.out.1.keep.cell (rows_cell H.out (by rw [← Nat.add_zero (k * 2), flat_get entV 2 entV_len hx (by omega)]; rfl)).1 (fun q => q)
      have c2 : wr.cell? ⟨g, k * 2 + 1, none⟩ = some (.int .i64 x.2) := M.out.1.keep.cell (rows_cell H.out (by rw [flat_get entV 2 entV_len hx (by omega)]; rfl)).1 (fun q => q)
      have HX := Lib.hid hx
      clear hx
      by_cases hq2 : q ≤ k
      · have HQ := Lib.hid (show q.toNat = k by omega)
        go_wp2
        go_ret
        refine ⟨_, rfl, ?_⟩
        have := M.out.1.aside (Keep.alloc wr (.cells #[.string x.1, .int .i64 x.2] 49) (fun _ => False))
        unfold firsts
        rw [HQ.out, ← List.map_take]
        exact this
      · have hq3 : ¬ (k : Int) ≥ q := by omega
        have hq4 : (k : Int) < q := by omega
        go_wp2_with (
          at_builtin
          refine law_pushH rfl _ _ _ rfl Try.underlying22 HI.out.1 HI.out.2.1 HI.out.2.2.1 HI.out.2.2.2 hz1 (M.out.1.aside (Keep.alloc wr (.cells #[.string x.1, .int .i64 x.2] 49) (fun _ => False))) rfl (.string x.1) rfl (by simp) rfl M.out.2 (by omega) ?_
          intro a8 cap8 w8 hM8 _ _
          have M8 := Lib.hid hM8
          clear hM8)
        go_roundg (n - (k + 1))
        case measure => omega
        case rel =>
          refine ⟨k + 1, rfl, by omega, .inr (by omega), ?_⟩
          rw [List.take_add_one, HX.out]
          simpa using M8.out
    · have hlt' : ¬ (k : Int) < (n : Int) := by omega
      obtain rfl : k = n := by omega
      have hq5 := Lib.hid hq
      clear hq
      go_wp2
      go_ret
      refine ⟨_, rfl, ?_⟩
      have := M.out.1
      unfold firsts
      have e : (L.map Prod.fst).take q.toNat = (L.take k).map Prod.fst := by
        rcases hq5.out with h0 | h1
        · have : L = [] := List.length_eq_zero_iff.1 (by rw [HN.out]; exact h0)
          subst this; simp
        · rw [List.take_of_length_le (by rw [List.length_map, HN.out]; omega), List.take_of_length_le (by rw [HN.out]; exact Nat.le_refl _)]
      rw [e]
      exact this

theorem aset_at {L : List Pair} {key : ByteArray} {p u : Int} (h : aget L key = some p) : ∃ k : Nat, idxT L key = k ∧ L[k]? = some (key, p) ∧ k < L.length ∧ L.set k (key, u) = aset L key u := by
  obtain ⟨k, h1, h2, h3, h4⟩ := idx_some h
  refine ⟨k, h1, h2, h3, ?_⟩
  clear h4
  induction L generalizing k with
  | nil => simp at h3
  | cons x r ih =>
    obtain ⟨a, z⟩ := x
    simp only [aget] at h
    by_cases e : a = key
    · subst e
      have : k = 0 := by
        unfold idxT atT at h1
        simp [List.findIdx?_cons] at h1
        omega
      subst this
      simp [aset]
    · simp only [e, if_false] at h
      obtain ⟨k', h1', h2', h3', h4'⟩ := idx_some h
      have hk : k = k' + 1 := by
        unfold idxT atT at h1 h1'
        rw [List.findIdx?_cons] at h1
        simp only [e, decide_false, Bool.false_eq_true, if_false] at h1
        cases hf : r.findIdx? (fun x => decide (x.1 = key)) with
        | none => rw [hf] at h1'; simp at h1'
        | some j => rw [hf] at h1 h1'; simp at h1 h1'; omega
      subst hk
      simp only [List.set_cons_succ, aset, e, if_false]
      rw [ih h k' h1' h2' h3']

theorem aset_fst' {L : List Pair} {key : ByteArray} {p : Int} (u : Int) (h : aget L key = some p) : (aset L key u).map Prod.fst = L.map Prod.fst := aset_fst L key u (List.mem_map_of_mem (pget_mem h))

def setPins (L : List Pair) (key : ByteArray) (by' : Int) : List Pair × Bool :=
  match aget L key with
  | none => (L, false)
  | some p => if p + by' < 0 then (L, false) else (aset L key (p + by'), true)

set_option maxHeartbeats 1000000 in
theorem pin_c {w : World} {lb : Nat} {S : Nat → Prop} {most : Int} {L : List Pair} (h : ListAt w lb S most L) (hl : L.length ≤ 1000000) (key : ByteArray) (d : Int) (hd : -1 ≤ d ∧ d ≤ 1) (hp : ∀ p, aget L key = some p → 0 ≤ p ∧ p ≤ 1000000) :
    Calls Try.prog 32 #[.pointer (some ⟨lb, 0, none⟩), .string key, .int .i64 d] w fun r w' => r = .returned (.bool (setPins L key d).2) ∧ ListAt w' lb S most (setPins L key d).1 ∧ Keep w w' S := by
  have hf := find_c h hl key
  unfold setPins
  cases hg : aget L key with
  | none =>
    rw [idx_none hg] at hf
    have H := Lib.hid h
    clear hg h hp
    go_enter Try.func32, Try.ntmps32
    go_wp2_with (
      go_at_call 29
      refine hf.mono ?_
      rintro e w2 ⟨rfl, hk2⟩
      have K2 := Lib.hid hk2
      clear hf hk2)
    go_ret
    exact ⟨rfl, H.out.aside K2.out, K2.out.mono (fun _ q => q.elim)⟩
  | some p =>
    obtain ⟨k, h1, h2, h3, h4⟩ := aset_at (u := p + d) hg
    have hpb := hp p hg
    rw [h1] at hf
    obtain ⟨v, hb, hr, hS, hlb⟩ := h.ex
    obtain ⟨sa, cap, rfl, hcap⟩ := rows_val2 hr
    obtain ⟨g, rfl, _, _, hgl⟩ := rows_some hr (by omega)
    have H := Lib.hid (And.intro h (And.intro hb (And.intro hr (And.intro hS (And.intro hlb (And.intro h2 (And.intro h4 hg)))))))
    generalize hn : L.length = n at *
    have HN := Lib.hid hn
    clear hg h1 h2 h4 hb hr hS hlb h hp hn
    have hge : ¬ (k : Int) < 0 := by omega
    have hlt' : (k : Int) < (n : Int) := by omega
    simp only
    by_cases hneg : p + d < 0
    · rw [if_pos hneg]
      go_enter Try.func32, Try.ntmps32
      go_wp2_with (
        go_at_call 29
        refine hf.mono ?_
        rintro e w2 ⟨rfl, hk2⟩
        have K2 := Lib.hid hk2
        have c1 : w2.cell? ⟨lb, 1, none⟩ = some (.slice (some ⟨g, 0, none⟩) n cap) := by rw [cell_blk (hk2.get H.out.2.1 (fun q => q))]; rfl
        have c2 : w2.cell? ⟨g, k * 2 + 1, none⟩ = some (.int .i64 p) := hk2.cell (rows_cell H.out.2.2.1 (by rw [flat_get entV 2 entV_len H.out.2.2.2.2.2.1 (by omega)]; rfl)).1 (fun q => q)
        clear hf hk2)
      go_ret
      exact ⟨rfl, H.out.1.aside K2.out, K2.out.mono (fun _ q => q.elim)⟩
    · rw [if_neg hneg]
      go_enter Try.func32, Try.ntmps32
      go_wp2_with (
        go_at_call 29
        refine hf.mono ?_
        rintro e w2 ⟨rfl, hk2⟩
        have K2 := Lib.hid hk2
        have c1 : w2.cell? ⟨lb, 1, none⟩ = some (.slice (some ⟨g, 0, none⟩) n cap) := by rw [cell_blk (hk2.get H.out.2.1 (fun q => q))]; rfl
        have c2 : w2.cell? ⟨g, k * 2 + 1, none⟩ = some (.int .i64 p) := hk2.cell (rows_cell H.out.2.2.1 (by rw [flat_get entV 2 entV_len H.out.2.2.2.2.2.1 (by omega)]; rfl)).1 (fun q => q)
        have f2 : w2.frozen? ⟨g, k * 2 + 1, none⟩ = false := (rows_cell (rows_keep H.out.2.2.1 hk2 (fun _ _ q => q)) (by rw [flat_get entV 2 entV_len H.out.2.2.2.2.2.1 (by omega)]; rfl)).2
        clear hf hk2)
      go_ret
      obtain ⟨hL, hb, hr, hS, hlb, h2, h4, hg⟩ := H.out
      have hne : lb ≠ g := fun e => (hS g rfl).2 e.symm
      have hSg := (hS g rfl).1
      have k5 := Keep.setCell w2 ⟨g, k * 2 + 1, none⟩ (.int .i64 (p + d))
      have kk : Keep w (w2.setCell ⟨g, k * 2 + 1, none⟩ (.int .i64 (p + d))) S := (K2.out.mono (T := S) (fun _ q => q.elim)).trans k5 (fun b q => .inl (by rw [show b = g from q]; exact hSg))
      have hlen : (aset L key (p + d)).length = n := by rw [← h4, List.length_set]; exact HN.out
      refine ⟨rfl, ⟨⟨_, k5.get (K2.out.get hb (fun q => q)) hne, ?_, hS, hlb⟩, fun b q => Nat.lt_of_lt_of_le (hL.lt b q) kk.size, by rw [aset_fst' _ hg]; exact hL.nodup⟩, kk⟩
      rw [hlen, ← h4, ← flat_set entV 2 entV_len h2 (j := 1) (by omega) (u := .int .i64 (p + d)) rfl]
      exact rows_set (rows_keep hr K2.out (fun _ _ q => q)) _ _

theorem Pin_c {w : World} {lb : Nat} {S : Nat → Prop} {most : Int} {L : List Pair} (h : ListAt w lb S most L) (hl : L.length ≤ 1000000) (key : ByteArray) (hp : ∀ p, aget L key = some p → 0 ≤ p ∧ p ≤ 1000000) :
    Calls Try.prog 15 #[.pointer (some ⟨lb, 0, none⟩), .string key] w fun r w' => r = .returned (.bool (setPins L key 1).2) ∧ ListAt w' lb S most (setPins L key 1).1 ∧ Keep w w' S := by
  have hpc := pin_c h hl key 1 (by omega) hp
  clear h hp
  generalize setPins L key 1 = X at *
  obtain ⟨X1, X2⟩ := X
  go_enter Try.func15, Try.ntmps15
  go_wp2_with (
    go_at_call 32
    refine hpc.mono ?_
    rintro e w2 ⟨rfl, hk2⟩
    have K2 := Lib.hid hk2
    clear hpc hk2)
  go_ret
  exact ⟨rfl, K2.out⟩

theorem Unpin_c {w : World} {lb : Nat} {S : Nat → Prop} {most : Int} {L : List Pair} (h : ListAt w lb S most L) (hl : L.length ≤ 1000000) (key : ByteArray) (hp : ∀ p, aget L key = some p → 0 ≤ p ∧ p ≤ 1000000) :
    Calls Try.prog 16 #[.pointer (some ⟨lb, 0, none⟩), .string key] w fun r w' => r = .returned (.bool (setPins L key (-1)).2) ∧ ListAt w' lb S most (setPins L key (-1)).1 ∧ Keep w w' S := by
  have hpc := pin_c h hl key (-1) (by omega) hp
  clear h hp
  generalize setPins L key (-1) = X at *
  obtain ⟨X1, X2⟩ := X
  go_enter Try.func16, Try.ntmps16
  go_wp2_with (
    go_at_call 32
    refine hpc.mono ?_
    rintro e w2 ⟨rfl, hk2⟩
    have K2 := Lib.hid hk2
    clear hpc hk2)
  go_ret
  exact ⟨rfl, K2.out⟩

end Go.Proofs.Ytfmdhbcniabpiaa
