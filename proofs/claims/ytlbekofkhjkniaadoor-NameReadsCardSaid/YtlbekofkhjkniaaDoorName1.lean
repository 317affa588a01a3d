/-
  Plain laws of paths in parts.
-/
import Derived.Test.YtlbekofkhjkniaaDoorClean
namespace Go.Proofs.YtlbekofkhjkniaaDoor
open Go
set_option linter.unusedSectionVars false
set_option linter.unusedSimpArgs false
set_option linter.unusedVariables false

theorem ix_iff {l : Bl} {c : UInt8} : 0 ≤ Lib.indexByte l c ↔ c ∈ l := by
  have hge := Lib.indexByte_ge l c
  constructor
  · intro h
    obtain ⟨o, ho⟩ : ∃ o : Nat, Lib.indexByte l c = o := ⟨(Lib.indexByte l c).toNat, by omega⟩
    exact List.mem_of_getElem? (Lib.indexByte_some ho).1
  · intro h
    by_cases hn : Lib.indexByte l c = -1
    · obtain ⟨k, hk⟩ := List.getElem?_of_mem h
      exact absurd hk (Lib.indexByte_none hn k)
    · omega

theorem ix_lt {l : Bl} {c : UInt8} : Lib.indexByte l c < 0 ↔ c ∉ l := by
  rw [← ix_iff]; omega

/-- Read, in plain words. -/
theorem readP_eq (l : Bl) : readP l = if l = [] then ((false, false, []), 32) else if 4096 < l.length then ((false, false, []), 45) else if 0 ∈ l then ((false, false, []), 39)
    else if ∃ p ∈ parts l, 255 < p.length then ((false, false, []), 45) else ((decide (l.head? = some 47), decide (l.getLast? = some 47), parts l), 0) := by
  unfold readP
  simp only [ix_iff, List.any_eq_true, decide_eq_true_eq]

theorem pieces_append (a b : Bl) : pieces (a ++ 47 :: b) = pieces a ++ pieces b := by
  induction a with
  | nil => simp [pieces]
  | cons c r ih =>
    rw [List.cons_append, pieces, ih]
    by_cases h : c = 47
    · simp [pieces, h]
    · rw [pieces, if_neg h, if_neg h]
      have hne := pieces_ne r
      split
      · rename_i e; simp [hne] at e
      · rename_i p ps e
        split
        · rename_i e2; exact absurd e2 hne
        · rename_i p2 ps2 e2
          rw [e2] at e
          simp at e
          obtain ⟨rfl, rfl⟩ := e
          rfl

theorem parts_append (a b : Bl) : parts (a ++ 47 :: b) = parts a ++ parts b := by
  unfold parts
  rw [pieces_append, List.filter_append]

theorem pieces_free {a : Bl} (h : (47 : UInt8) ∉ a) : pieces a = [a] := by
  induction a with
  | nil => rfl
  | cons c r ih =>
    have h1 : c ≠ 47 := fun e => h (by rw [e]; exact List.mem_cons_self)
    rw [pieces, if_neg h1, ih (fun q => h (List.mem_cons_of_mem _ q))]

theorem parts_free {a : Bl} (h : (47 : UInt8) ∉ a) (h0 : a ≠ []) : parts a = [a] := by
  unfold parts
  rw [pieces_free h]
  simp [h0]

theorem parts_nil : parts [] = [] := rfl

theorem parts_slash (b : Bl) : parts (47 :: b) = parts b := by
  have h := parts_append [] b
  simpa [parts_nil] using h

theorem parts_slashes (n : Nat) (b : Bl) : parts (List.replicate n 47 ++ b) = parts b := by
  induction n with
  | zero => rfl
  | succ n ih => rw [List.replicate_succ, List.cons_append, parts_slash, ih]

/-- Every part is free of slashes, and there. -/
theorem pieces_mem {l p : Bl} (h : p ∈ pieces l) : (47 : UInt8) ∉ p ∧ ∀ c ∈ p, c ∈ l := by
  induction l generalizing p with
  | nil => simp [pieces] at h; subst h; simp
  | cons c r ih =>
    rw [pieces] at h
    split at h
    · rcases List.mem_cons.1 h with rfl | h
      · simp
      · exact ⟨(ih h).1, fun x hx => List.mem_cons_of_mem _ ((ih h).2 x hx)⟩
    · rename_i hc
      split at h
      · rename_i e; exact absurd e (pieces_ne r)
      · rename_i q qs e
        rcases List.mem_cons.1 h with rfl | h
        · have hq := ih (p := q) (by rw [e]; exact List.mem_cons_self)
          refine ⟨fun hm => ?_, fun x hx => ?_⟩
          · rcases List.mem_cons.1 hm with e2 | hm
            · exact hc e2.symm
            · exact hq.1 hm
          · rcases List.mem_cons.1 hx with rfl | hx
            · exact List.mem_cons_self
            · exact List.mem_cons_of_mem _ (hq.2 x hx)
        · have hq := ih (p := p) (by rw [e]; exact List.mem_cons_of_mem _ h)
          exact ⟨hq.1, fun x hx => List.mem_cons_of_mem _ (hq.2 x hx)⟩

theorem parts_mem {l p : Bl} (h : p ∈ parts l) : p ≠ [] ∧ (47 : UInt8) ∉ p ∧ ∀ c ∈ p, c ∈ l := by
  unfold parts at h
  obtain ⟨h1, h2⟩ := List.mem_filter.1 h
  exact ⟨by simpa using h2, pieces_mem h1⟩

/-! ### paths of slashes -/

theorem read_slashes {n : Nat} (h0 : 0 < n) (h1 : n ≤ 4096) : readP (List.replicate n 47) = ((true, true, []), 0) := by
  have hp : parts (List.replicate n 47) = [] := by
    have h := parts_slashes n []
    rwa [List.append_nil] at h
  rw [readP_eq, hp, if_neg (by simp; omega), if_neg (by simp; omega), if_neg (by simp), if_neg (by simp)]
  simp [List.head?_replicate, List.getLast?_replicate]
  omega

theorem read_many {l : Bl} (h : 4096 < l.length) : readP l = ((false, false, []), 45) := by
  rw [readP_eq, if_neg (by intro e; subst e; simp at h), if_pos h]

theorem set_slashes {n k : Nat} (hk : k < n) : (List.replicate n (47 : UInt8)).set k 120 = List.replicate k 47 ++ 120 :: List.replicate (n - (k + 1)) 47 := by
  apply List.ext_getElem
  · simp; omega
  · intro i h1 h2
    rw [List.getElem_set]
    by_cases e : k = i
    · subst e
      rw [if_pos rfl, List.getElem_append_right (by simp)]
      simp
    · rw [if_neg e]
      by_cases h3 : i < k
      · rw [List.getElem_append_left (by simpa using h3)]
        simp
      · rw [List.getElem_append_right (by simp; omega)]
        obtain ⟨j, hj⟩ : ∃ j, i - k = j + 1 := ⟨i - k - 1, by omega⟩
        simp only [List.length_replicate, hj]
        simp

theorem read_one {n k : Nat} (hk : k < n) (h1 : n ≤ 4096) : readP ((List.replicate n (47 : UInt8)).set k 120) = ((decide (0 < k), decide (k + 1 < n), [[120]]), 0) := by
  have hp : parts ((List.replicate n (47 : UInt8)).set k 120) = [[120]] := by
    rw [set_slashes hk, parts_slashes]
    by_cases h : n - (k + 1) = 0
    · rw [h]; rfl
    · obtain ⟨m, hm⟩ : ∃ m, n - (k + 1) = m + 1 := ⟨n - (k + 1) - 1, by omega⟩
      rw [hm, List.replicate_succ]
      have h2 := parts_append [120] (List.replicate m 47)
      have h3 := parts_slashes m []
      rw [List.append_nil] at h3
      rw [h3, parts_nil, List.append_nil] at h2
      exact h2
  have hl : ((List.replicate n (47 : UInt8)).set k 120).length = n := by simp
  rw [readP_eq, hp, if_neg (by intro e; rw [e] at hl; simp at hl; omega), if_neg (by rw [hl]; omega), if_neg ?_, if_neg (by simp)]
  · rw [set_slashes hk]
    have e1 : decide ((List.replicate k (47 : UInt8) ++ 120 :: List.replicate (n - (k + 1)) 47).head? = some 47) = decide (0 < k) := by
      apply decide_eq_decide.2
      cases k with
      | zero => simp
      | succ k => simp [List.replicate_succ]
    have e2 : decide ((List.replicate k (47 : UInt8) ++ 120 :: List.replicate (n - (k + 1)) 47).getLast? = some 47) = decide (k + 1 < n) := by
      apply decide_eq_decide.2
      rw [List.getLast?_append]
      rcases Nat.eq_zero_or_pos (n - (k + 1)) with h | h
      · rw [h]; simp; omega
      · obtain ⟨m, hm⟩ : ∃ m, n - (k + 1) = m + 1 := ⟨n - (k + 1) - 1, by omega⟩
        rw [hm, List.getLast?_cons]
        simp [List.getLast?_replicate]
        omega
    rw [e1, e2]
  · rw [set_slashes hk]
    simp

end Go.Proofs.YtlbekofkhjkniaaDoor
