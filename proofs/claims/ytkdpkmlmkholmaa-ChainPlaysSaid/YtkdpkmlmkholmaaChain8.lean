/-
  The document's table: Drop in one word; In.
-/
import Derived.Test.YtkdpkmlmkholmaaChain7
namespace Go.Proofs.Ytkdpkmlmkholmaa
open Go Go.RowKit
set_option linter.unusedSectionVars false
set_option linter.unusedSimpArgs false
set_option linter.unusedVariables false

theorem rdrop_c {w : World} {rb : Nat} {S : Nat → Prop} {T : List Pair} (h : RefAt w rb S T) (key : ByteArray) :
    Calls Try.prog 11 #[.pointer (some ⟨rb, 0, none⟩), .string key] w fun r w' => r = .returned (.tuple #[.int .i64 (dropT T key).2.1, .int .i64 (dropT T key).2.2]) ∧ ∃ S', RefAt w' rb S' (dropT T key).1 ∧ Turn w S w' S' := by
  unfold dropT
  cases hg : aget T key with
  | some v => exact rdrop_some h key hg
  | none =>
    have hf := rfind_c h key
    rw [idx_none hg] at hf
    refine Calls.mono (R := fun r w' => r = .returned (.tuple #[.int .i64 0, .int .i64 14]) ∧ w' = w) ?_ ?_
    · clear h hg
      go_enter Try.func11, Try.ntmps11
      go_wp2_with (
        go_at_call 30
        refine hf.mono ?_
        rintro e w1 ⟨rfl, rfl⟩)
      go_ret2
      exact ⟨rfl, rfl⟩
    · rintro e w' ⟨rfl, rfl⟩
      exact ⟨rfl, S, h, Turn.refl _ _⟩

theorem rlen_c {w : World} {rb : Nat} {S : Nat → Prop} {T : List Pair} (h : RefAt w rb S T) :
    Calls Try.prog 26 #[.pointer (some ⟨rb, 0, none⟩)] w fun r w' => r = .returned (.int .i64 T.length) ∧ w' = w := by
  obtain ⟨v, h1, h2, h3, h4⟩ := h.ex
  obtain ⟨sa, cap, rfl, hc⟩ := rows_val2 h2
  have c0 : w.cell? ⟨rb, 0, none⟩ = some (.slice sa T.length cap) := by rw [cell_blk h1]; rfl
  clear h h1 h2 h3 h4
  go_enter Try.func26, Try.ntmps26
  go_wp2
  go_ret
  exact ⟨rfl, rfl⟩

def inT (T : List Pair) (m c : Int) : Nat := T.countP (fun x => decide (hashOf x.1 % m = c))

set_option maxHeartbeats 1000000 in
theorem rin_c {w : World} {rb : Nat} {S : Nat → Prop} {T : List Pair} (h : RefAt w rb S T) (m c : Int) (hm : 1 ≤ m) (hm2 : m ≤ 64) (hT : ∀ x ∈ T, x.1.size ≤ 9223372036854775807) :
    Calls Try.prog 15 #[.pointer (some ⟨rb, 0, none⟩), .int .u32 c, .int .u32 m] w fun r w' => r = .returned (.int .i64 (inT T m c)) ∧ ∃ q, w' = w.drewN q := by
  obtain ⟨v, h1, h2, h3, h4⟩ := h.ex
  have hl := h.len
  obtain ⟨sa, cap, rfl, hc⟩ := rows_val2 h2
  have c0 : w.cell? ⟨rb, 0, none⟩ = some (.slice sa T.length cap) := by rw [cell_blk h1]; rfl
  have H := Lib.hid h2
  have HT := Lib.hid hT
  generalize hz : inT T m c = z
  have HZ := Lib.hid hz
  generalize hn : T.length = n at *
  have HN := Lib.hid hn
  clear h h1 h2 h3 h4 hn hz hT
  go_enter Try.func15, Try.ntmps15
  go_wp2

  go_loopg [7, 8] n (fun g s4 s5 wr => ∃ k : Nat, s5 = .int .i64 k ∧ k + g = n ∧ s4 = .int .i64 (inT (T.take k) m c) ∧ ∃ q, wr = w.drewN q)
  case atStart => exact ⟨0, rfl, by omega, rfl, 0, rfl⟩
  case round =>
    obtain ⟨k, rfl, hk, rfl, q, rfl⟩ := hrel
    by_cases hlt : k < n
    · obtain ⟨g, rfl, _, _, _⟩ := rows_some H.out (by omega)
      obtain ⟨x, hx⟩ : ∃ x, T[k]? = some x := ⟨_, List.getElem?_eq_getElem (by rw [HN.out]; exact hlt)⟩
      have c1 : w.cell? ⟨g, k * 2, none⟩ = some (.string x.1) := (rows_cell H.out (by rw [← Nat.add_zero (k * 2), flat_get pairV 2 pairV_len hx (by omega)]; rfl)).1
      have hlt' : (k : Int) < (n : Int) := by omega
      have hh := ref_hash_c x.1
      have hs := HT.out x (List.mem_of_getElem? hx)
      have hu := hashOf_lt x.1
      have E := Lib.hid (show inT (T.take (k + 1)) m c = inT (T.take k) m c + if hashOf x.1 % m = c then 1 else 0 from by
        rw [List.take_add_one, hx]
        unfold inT
        rw [List.countP_append]
        congr 1
        simp [List.countP_cons])
      have hle : inT (T.take k) m c ≤ 64 := by
        have a1 : inT (T.take k) m c ≤ (T.take k).length := List.countP_le_length
        have a2 : (T.take k).length ≤ k := by rw [List.length_take]; omega
        omega
      generalize inT (T.take k) m c = N at *
      generalize hashOf x.1 = Hx at *
      have e2 : Hx.tmod m = Hx % m := Int.tmod_eq_emod_of_nonneg (by omega)
      clear hx
      have hm0 : ¬ m = 0 := by omega
      by_cases hcc : Hx % m = c
      · simp only [hcc, if_true] at E
        go_wp2_with (first
          | (go_at_call 14
             refine (hh _ hs).mono ?_
             rintro e w1 ⟨rfl, rfl⟩)
          | fail)

        go_roundg (n - (k + 1))
        case measure => omega
        case rel => exact ⟨k + 1, rfl, by omega, by rw [E.out]; rfl, _, rfl⟩
      · simp only [hcc, if_false] at E
        go_wp2_with (first
          | (go_at_call 14
             refine (hh _ hs).mono ?_
             rintro e w1 ⟨rfl, rfl⟩)
          | fail)

        go_roundg (n - (k + 1))
        case measure => omega
        case rel => exact ⟨k + 1, rfl, by omega, by rw [E.out]; rfl, _, rfl⟩
    · have hlt' : ¬ (k : Int) < (n : Int) := by omega
      have E : inT (T.take k) m c = z := by rw [List.take_of_length_le (by rw [HN.out]; omega)]; exact HZ.out
      simp only [E]
      go_wp2
      go_ret
      exact ⟨rfl, q, rfl⟩

end Go.Proofs.Ytkdpkmlmkholmaa
