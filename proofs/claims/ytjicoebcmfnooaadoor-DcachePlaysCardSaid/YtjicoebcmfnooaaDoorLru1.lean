/-
  A list in memory; New, Len, find, Has, Drop.
-/
import Derived.Test.YtjicoebcmfnooaaDoorLru0
import Derived.Test.YtjicoebcmfnooaaDoorIdx
import Derived.Test.YtjicoebcmfnooaaDoorTurns
import Derived.Deep.RegionHeld3
namespace Go.Proofs.YtjicoebcmfnooaaDoor
open Go Go.RowKit
set_option linter.unusedSectionVars false
set_option linter.unusedSimpArgs false
set_option linter.unusedVariables false

structure ListAt (w : World) (lb : Nat) (S : Nat → Prop) (most : Int) (L : List Pair) : Prop where
  ex : ∃ v, w.heap[lb]? = some (.cells #[.int .i64 most, v] 69 (0, 0)) ∧ w.ownsRow 0 72 2 v L.length (flat entV L) ∧ (∀ b, v.ownBlock = some b → S b ∧ b ≠ lb) ∧ S lb
  lt : ∀ b, S b → b < w.heap.size
  nodup : (L.map Prod.fst).Nodup

theorem ListAt.keep {w w' : World} {lb : Nat} {S U : Nat → Prop} {most : Int} {L : List Pair} (h : ListAt w lb S most L) (K : Keep w w' U) (hU : ∀ b, S b → ¬ U b) : ListAt w' lb S most L := by
  obtain ⟨v, h1, h2, h3, h4⟩ := h.ex
  exact ⟨⟨v, K.get h1 (hU _ h4), rows_keep h2 K (fun b q => hU b (h3 b q).1), h3, h4⟩, fun b q => Nat.lt_of_lt_of_le (h.lt b q) K.size, h.nodup⟩

theorem ListAt.aside {w w' : World} {lb : Nat} {S : Nat → Prop} {most : Int} {L : List Pair} (h : ListAt w lb S most L) (K : Keep w w' (fun _ => False)) : ListAt w' lb S most L := h.keep K (fun _ _ q => q)

theorem new_c (w : World) (m : Int) (h1 : 1 ≤ m) (h2 : m ≤ 64) :
    Calls Tryd.prog 22 #[.int .i64 m] w fun r w' => ∃ lb S, r = .returned (.tuple #[.pointer (some ⟨lb, 0, none⟩), .int .i64 0]) ∧ ListAt w' lb S m [] ∧ Turn w (fun _ => False) w' S := by
  have g1 : ¬ m < 1 := by omega
  have g2 : ¬ 64 < m := by omega
  go_enter Tryd.func22, Tryd.ntmps22
  go_wp2
  go_ret2
  refine ⟨w.heap.size, rfl, fun b => b = w.heap.size, ⟨⟨.slice none 0 0, heap_alloc_eq _ _, rows_nil _ _ _, fun b q => by simp [Value.ownBlock] at q, rfl⟩, fun b q => ?_, by simp⟩, Keep.alloc _ _ _, fun b q => .inr (by rw [show b = w.heap.size from q]; exact Nat.le_refl _)⟩
  rw [show b = w.heap.size from q]
  show w.heap.size < (w.heap.push _).size
  rw [Array.size_push]
  omega

theorem new_bad (w : World) (m : Int) (h : m < 1 ∨ 64 < m) :
    Calls Tryd.prog 22 #[.int .i64 m] w fun r w' => r = .returned (.tuple #[.pointer none, .int .i64 1]) ∧ w = w' := by
  rcases h with h | h
  · go_enter Tryd.func22, Tryd.ntmps22
    go_wp2
    go_ret2
    exact ⟨rfl, rfl⟩
  · have h' : ¬ m < 1 := by omega
    go_enter Tryd.func22, Tryd.ntmps22
    go_wp2
    go_ret2
    exact ⟨rfl, rfl⟩

theorem len_c {w : World} {lb : Nat} {S : Nat → Prop} {most : Int} {L : List Pair} (h : ListAt w lb S most L) :
    Calls Tryd.prog 27 #[.pointer (some ⟨lb, 0, none⟩)] w fun r w' => r = .returned (.int .i64 L.length) ∧ w' = w := by
  obtain ⟨v, h1, h2, h3, h4⟩ := h.ex
  obtain ⟨sa, cap, rfl, hc⟩ := rows_val2 h2
  have c0 : w.cell? ⟨lb, 1, none⟩ = some (.slice sa L.length cap) := by rw [cell_blk h1]; rfl
  clear h1 h2 h3 h4 h
  go_enter Tryd.func27, Tryd.ntmps27
  go_wp2
  go_ret
  exact ⟨rfl, rfl⟩

theorem streq {a b : ByteArray} (h : a ≠ b) : (a.toList == b.toList) = false := by
  rw [beq_eq_false_iff_ne]
  intro e
  rw [ByteArray.toList_eq, ByteArray.toList_eq] at e
  obtain ⟨⟨x⟩⟩ := a
  obtain ⟨⟨y⟩⟩ := b
  exact h (by simpa using e)

/-- The function that find hands on. -/
theorem is_c {w : World} {kb : Nat} {key : ByteArray} (x : Pair) (h : w.heap[kb]? = some (.cells #[.string key] 9 (0, 0))) :
    Calls Tryd.prog 50 #[.agg #[.string x.1, .int .i64 x.2], .pointer (some ⟨kb, 0, none⟩)] w fun r w' => r = .returned (.bool (decide (x.1 = key))) ∧ Keep w w' (fun _ => False) := by
  have c00 : w.cell? ⟨kb, 0, none⟩ = some (.string key) := by rw [cell_blk h]; rfl
  have c0 : ∀ o, (w.alloc o).cell? ⟨kb, 0, none⟩ = some (.string key) := fun o => (Keep.alloc w o (fun _ => False)).cell c00 (fun q => q)
  clear h c00
  obtain ⟨xk, xp⟩ := x
  by_cases hk : xk = key
  · subst hk
    go_enter Tryd.func50, Tryd.ntmps50
    go_wp2
    go_ret
    exact ⟨by simp, Keep.alloc _ _ _⟩
  · have g := streq hk
    have HK := Lib.hid hk
    clear hk
    simp only
    go_enter Tryd.func50, Tryd.ntmps50
    go_wp2
    go_ret
    exact ⟨by simp [HK.out], Keep.alloc _ _ _⟩

set_option maxHeartbeats 1000000 in
theorem index_c {w : World} {kb : Nat} {key : ByteArray} {v : Value} {L : List Pair} (hk : w.heap[kb]? = some (.cells #[.string key] 9 (0, 0))) (hr : w.ownsRow 0 72 2 v L.length (flat entV L)) (hl : L.length ≤ 1000000) :
    Calls Tryd.prog 49 #[v, .func (.func 50) #[] #[.pointer (some ⟨kb, 0, none⟩)]] w fun r w' => r = .returned (.int .i64 (idxT L key)) ∧ Keep w w' (fun _ => False) := by
  obtain ⟨sa, cap, rfl, hc⟩ := rows_val2 hr
  have H := Lib.hid (And.intro hk hr)
  generalize hz : idxT L key = z
  have HZ := Lib.hid hz
  generalize hn : L.length = n at *
  have HN := Lib.hid hn
  clear hk hr hz hn
  go_enter Tryd.func49, Tryd.ntmps49
  go_wp2
  go_loopg [8] n (fun g s8 wr => ∃ k : Nat, s8 = .int .i64 k ∧ k + g = n ∧ (∀ x ∈ L.take k, x.1 ≠ key) ∧ Keep w wr (fun _ => False))
  case atStart => exact ⟨0, rfl, by omega, by simp, Keep.refl _ _⟩
  case round =>
    obtain ⟨k, rfl, hk, hne, hK⟩ := hrel
    have K := Lib.hid (And.intro hne hK)
    clear hne hK
    by_cases hlt : k < n
    · have hlt' : (k : Int) < (n : Int) := by omega
      obtain ⟨g, rfl, _, _, _⟩ := rows_some H.out.2 (by omega)
      obtain ⟨x, hx⟩ : ∃ x, L[k]? = some x := ⟨_, List.getElem?_eq_getElem (by rw [HN.out]; exact hlt)⟩
      have c1 : wr.cell? ⟨g, k * 2, none⟩ = some (.string x.1) := K.out.2.cell (rows_cell H.out.2 (by rw [← Nat.add_zero (k * 2), flat_get entV 2 entV_len hx (by omega)]; rfl)).1 (fun q => q)
      have c2 : wr.cell? ⟨g, k * 2 + 1, none⟩ = some (.int .i64 x.2) := K.out.2.cell (rows_cell H.out.2 (by rw [flat_get entV 2 entV_len hx (by omega)]; rfl)).1 (fun q => q)
      have hcl := is_c x (K.out.2.get H.out.1 (fun q => q))
      have HX := Lib.hid hx
      clear hx
      by_cases he : x.1 = key
      · have HE := Lib.hid he
        rw [decide_eq_true he] at hcl
        clear he
        go_wp2_with (
          go_at_call 50
          refine hcl.mono ?_
          rintro e w2 ⟨rfl, hk2⟩
          have K2 := Lib.hid hk2
          clear hcl hk2)
        go_ret
        exact ⟨by rw [← HZ.out, idx_found HX.out HE.out K.out.1]; rfl, K.out.2.trans K2.out (fun _ q => q.elim)⟩
      · have HE := Lib.hid he
        rw [decide_eq_false he] at hcl
        clear he
        go_wp2_with (
          go_at_call 50
          refine hcl.mono ?_
          rintro e w2 ⟨rfl, hk2⟩
          have K2 := Lib.hid hk2
          clear hcl hk2)
        go_roundg (n - (k + 1))
        case measure => omega
        case rel =>
          refine ⟨k + 1, rfl, by omega, ?_, K.out.2.trans K2.out (fun _ q => q.elim)⟩
          intro y hy
          rw [List.take_add_one, HX.out] at hy
          rcases List.mem_append.1 hy with hy | hy
          · exact K.out.1 y hy
          · simp at hy; subst hy; exact HE.out
    · have hlt' : ¬ (k : Int) < (n : Int) := by omega
      go_wp2
      go_ret
      have e : idxT L key = -1 := idx_out fun y hy => K.out.1 y (by rw [List.take_of_length_le (by rw [HN.out]; omega)]; exact hy)
      exact ⟨by rw [← HZ.out, e]; rfl, K.out.2⟩

theorem find_c {w : World} {lb : Nat} {S : Nat → Prop} {most : Int} {L : List Pair} (h : ListAt w lb S most L) (hl : L.length ≤ 1000000) (key : ByteArray) :
    Calls Tryd.prog 38 #[.pointer (some ⟨lb, 0, none⟩), .string key] w fun r w' => r = .returned (.int .i64 (idxT L key)) ∧ Keep w w' (fun _ => False) := by
  obtain ⟨v, h1, h2, h3, h4⟩ := h.ex
  have c00 : w.cell? ⟨lb, 1, none⟩ = some v := by rw [cell_blk h1]; rfl
  have c0 : ∀ o, (w.alloc o).cell? ⟨lb, 1, none⟩ = some v := fun o => (Keep.alloc w o (fun _ => False)).cell c00 (fun q => q)
  clear c00
  have hi := index_c (w := w.alloc (.cells #[.string key] 9)) (kb := w.heap.size) (key := key) (heap_alloc_eq _ _) (rows_keep h2 (Keep.alloc w _ (fun _ => False)) (fun _ _ q => q)) hl
  obtain ⟨sa, cap, rfl, hc⟩ := rows_val2 h2
  clear h1 h2 h3 h4 h
  go_enter Tryd.func38, Tryd.ntmps38
  go_wp2_with (
    go_at_call 49
    refine hi.mono ?_
    rintro e w2 ⟨rfl, hk2⟩
    have K2 := Lib.hid hk2
    clear hi hk2)
  go_ret
  exact ⟨rfl, (Keep.alloc w _ (fun _ => False)).trans K2.out (fun _ q => q.elim)⟩

end Go.Proofs.YtjicoebcmfnooaaDoor
