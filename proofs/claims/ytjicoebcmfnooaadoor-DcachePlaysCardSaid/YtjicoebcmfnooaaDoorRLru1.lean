/-
  The document's list: New, Len, find, Has, Pin, Unpin, Oldest.
-/
import Derived.Test.YtjicoebcmfnooaaDoorLru5
import Derived.Test.YtjicoebcmfnooaaDoorLru3
namespace Go.Proofs.YtjicoebcmfnooaaDoor
open Go Go.RowKit
set_option linter.unusedSectionVars false
set_option linter.unusedSimpArgs false
set_option linter.unusedVariables false

/-- The document's list in memory. -/
structure RefL (w : World) (rb : Nat) (S : Nat → Prop) (most : Int) (L : List Pair) : Prop where
  ex : ∃ v, w.heap[rb]? = some (.cells #[.int .i64 most, v] 80 (0, 0)) ∧ w.ownsRow 0 85 2 v L.length (flat entV L) ∧ (∀ b, v.ownBlock = some b → S b ∧ b ≠ rb) ∧ S rb
  lt : ∀ b, S b → b < w.heap.size

theorem RefL.keep {w w' : World} {lb : Nat} {S U : Nat → Prop} {most : Int} {L : List Pair} (h : RefL w lb S most L) (K : Keep w w' U) (hU : ∀ b, S b → ¬ U b) : RefL w' lb S most L := by
  obtain ⟨v, h1, h2, h3, h4⟩ := h.ex
  exact ⟨⟨v, K.get h1 (hU _ h4), rows_keep h2 K (fun b q => hU b (h3 b q).1), h3, h4⟩, fun b q => Nat.lt_of_lt_of_le (h.lt b q) K.size⟩

theorem RefL.aside {w w' : World} {lb : Nat} {S : Nat → Prop} {most : Int} {L : List Pair} (h : RefL w lb S most L) (K : Keep w w' (fun _ => False)) : RefL w' lb S most L := h.keep K (fun _ _ q => q)

theorem rnew_c (w : World) (m : Int) :
    Calls Tryd.prog 30 #[.int .i64 m] w fun r w' => ∃ lb S, r = .returned (.pointer (some ⟨lb, 0, none⟩)) ∧ RefL w' lb S m [] ∧ Turn w (fun _ => False) w' S := by
  go_enter Tryd.func30, Tryd.ntmps30
  go_wp2
  go_ret
  refine ⟨w.heap.size, fun b => b = w.heap.size, rfl, ⟨⟨.slice none 0 0, heap_alloc_eq _ _, rows_nil _ _ _, fun b q => by simp [Value.ownBlock] at q, rfl⟩, fun b q => ?_⟩, Keep.alloc _ _ _, fun b q => .inr (by rw [show b = w.heap.size from q]; exact Nat.le_refl _)⟩
  rw [show b = w.heap.size from q]
  show w.heap.size < (w.heap.push _).size
  rw [Array.size_push]
  omega

set_option maxHeartbeats 1000000 in
theorem rfind_c {w : World} {rb : Nat} {S : Nat → Prop} {most : Int} {T : List Pair} (h : RefL w rb S most T) (hl : T.length ≤ 1000000) (key : ByteArray) :
    Calls Tryd.prog 46 #[.pointer (some ⟨rb, 0, none⟩), .string key] w fun r w' => r = .returned (.int .i64 (idxT T key)) ∧ w' = w := by
  obtain ⟨v, h1, h2, h3, h4⟩ := h.ex
  obtain ⟨sa, cap, rfl, hc⟩ := rows_val2 h2
  have c0 : w.cell? ⟨rb, 1, none⟩ = some (.slice sa T.length cap) := by rw [cell_blk h1]; rfl
  have H := Lib.hid h2
  generalize hz : idxT T key = z
  have HZ := Lib.hid hz
  generalize hn : T.length = n at *
  have HN := Lib.hid hn
  clear h h1 h2 h3 h4 hn hz
  go_enter Tryd.func46, Tryd.ntmps46
  go_wp2
  go_loopg [5] n (fun g s3 wr => ∃ k : Nat, s3 = .int .i64 k ∧ k + g = n ∧ (∀ x ∈ T.take k, x.1 ≠ key) ∧ wr = w)
  case atStart => exact ⟨0, rfl, by omega, by simp, rfl⟩
  case round =>
    obtain ⟨k, rfl, hk, hne, rfl⟩ := hrel
    by_cases hlt : k < n
    · obtain ⟨g, rfl, _, _, _⟩ := rows_some H.out (by omega)
      obtain ⟨x, hx⟩ : ∃ x, T[k]? = some x := ⟨_, List.getElem?_eq_getElem (by rw [HN.out]; exact hlt)⟩
      have c1 : wr.cell? ⟨g, k * 2, none⟩ = some (.string x.1) := (rows_cell H.out (by rw [← Nat.add_zero (k * 2), flat_get entV 2 entV_len hx (by omega)]; rfl)).1
      have hlt' : (k : Int) < (n : Int) := by omega
      have NE := Lib.hid hne
      have HX := Lib.hid hx
      clear hne hx
      by_cases he : x.1 = key
      · have HE := Lib.hid he
        go_wp2
        go_ret
        exact ⟨by rw [← HZ.out, idx_found HX.out HE.out NE.out]; rfl, rfl⟩
      · have g1 : (x.1.toList == key.toList) = false := streq he
        have HE := Lib.hid he
        go_wp2
        go_roundg (n - (k + 1))
        case measure => omega
        case rel =>
          refine ⟨k + 1, rfl, by omega, ?_, rfl⟩
          intro y hy
          rw [List.take_add_one, HX.out] at hy
          rcases List.mem_append.1 hy with hy | hy
          · exact NE.out y hy
          · simp at hy; subst hy; exact HE.out
    · have hlt' : ¬ (k : Int) < (n : Int) := by omega
      have NE := Lib.hid hne
      clear hne
      go_wp2
      go_ret
      have e : idxT T key = -1 := idx_out fun y hy => NE.out y (by rw [List.take_of_length_le (by rw [HN.out]; omega)]; exact hy)
      exact ⟨by rw [← HZ.out, e]; rfl, rfl⟩

/-- The cell of a pin is another one now. -/
theorem ref_set {w : World} {lb g n cap k : Nat} {S : Nat → Prop} {most p u : Int} {L : List Pair} {key : ByteArray} (h : RefL w lb S most L) (hb : w.heap[lb]? = some (.cells #[.int .i64 most, .slice (some ⟨g, 0, none⟩) n cap] 80 (0, 0)))
    (hr : w.ownsRow 0 85 2 (.slice (some ⟨g, 0, none⟩) n cap) n (flat entV L)) (hS : S g ∧ g ≠ lb) (hlb : S lb) (hn : L.length = n) (h2 : L[k]? = some (key, p)) :
    RefL (w.setCell ⟨g, k * 2 + 1, none⟩ (.int .i64 u)) lb S most (L.set k (key, u)) ∧ Keep w (w.setCell ⟨g, k * 2 + 1, none⟩ (.int .i64 u)) S := by
  have k5 := Keep.setCell w ⟨g, k * 2 + 1, none⟩ (.int .i64 u)
  have hset := rows_set hr (k * 2 + 1) (.int .i64 u)
  rw [flat_set entV 2 entV_len h2 (by omega) (y := (key, u)) rfl] at hset
  refine ⟨⟨⟨_, k5.get hb (fun e => hS.2 (show lb = g from e).symm), by rw [List.length_set, hn]; exact hset, fun b q => ?_, hlb⟩, fun b q => Nat.lt_of_lt_of_le (h.lt b q) k5.size⟩, k5.mono fun b q => by rw [show b = g from q]; exact hS.1⟩
  have e : g = b := by simpa [Value.ownBlock] using q
  rw [← e]; exact hS

end Go.Proofs.YtjicoebcmfnooaaDoor
