/-
  A name as the cache has it: the dir's numeral, a slash, the name. Plain laws.
-/
import Derived.Test.YtjicoebcmfnooaaDoorB8
import Derived.Lib.ItoaLen
import Derived.Lib.ItoaMem
namespace Go.Proofs.YtjicoebcmfnooaaDoor
open Go
set_option linter.unusedSectionVars false
set_option linter.unusedSimpArgs false
set_option linter.unusedVariables false

def keyL (d : Int) (s : Bs) : Bs := Lib.itoa d ++ 47 :: s

theorem dig_of (u : Nat) (h : u < 10) : (UInt8.ofNat (48 + u)).toNat = 48 + u := by
  rw [UInt8.toNat_ofNat']
  exact Nat.mod_eq_of_lt (by omega)

theorem dec_digits (u : Nat) : ∀ b ∈ Lib.decDigits u, 48 ≤ b.toNat ∧ b.toNat ≤ 57 := by
  induction u using Nat.strongRecOn with
  | _ u ih =>
    intro b hb
    by_cases h : u < 10
    · rw [Lib.decDigits_one h] at hb
      obtain rfl := List.mem_singleton.1 hb
      rw [dig_of u h]
      omega
    · rw [Lib.decDigits.eq_def, dif_neg h] at hb
      rcases List.mem_append.1 hb with hb | hb
      · exact ih (u / 10) (by omega) b hb
      · obtain rfl := List.mem_singleton.1 hb
        have := dig_of (u % 10) (by omega)
        omega

def valL (l : Bs) : Nat := l.foldl (fun a b => 10 * a + (b.toNat - 48)) 0

theorem dec_val (u : Nat) : valL (Lib.decDigits u) = u := by
  induction u using Nat.strongRecOn with
  | _ u ih =>
    by_cases h : u < 10
    · rw [Lib.decDigits_one h]
      show 10 * 0 + ((UInt8.ofNat (48 + u)).toNat - 48) = u
      rw [dig_of u h]
      omega
    · rw [Lib.decDigits.eq_def, dif_neg h]
      unfold valL
      rw [List.foldl_append]
      have h1 := ih (u / 10) (by omega)
      unfold valL at h1
      rw [h1]
      show 10 * (u / 10) + ((UInt8.ofNat (48 + u % 10)).toNat - 48) = u
      rw [dig_of (u % 10) (by omega)]
      omega

theorem dec_ne (u : Nat) : Lib.decDigits u ≠ [] := by
  rw [Lib.decDigits.eq_def]
  split <;> simp

theorem itoa_cases (d : Int) : (∃ u : Nat, d = u ∧ Lib.itoa d = Lib.decDigits u) ∨ ∃ u : Nat, 1 ≤ u ∧ d = -(u : Int) ∧ Lib.itoa d = 45 :: Lib.decDigits u := by
  by_cases h : 0 ≤ d
  · refine .inl ⟨d.toNat, by omega, ?_⟩
    rw [← Lib.itoa_nonneg d.toNat]
    congr 1
    omega
  · refine .inr ⟨(-d).toNat, by omega, by omega, ?_⟩
    rw [← Lib.itoa_neg (-d).toNat (by omega)]
    congr 1
    omega

theorem itoa_slash (d : Int) : (47 : UInt8) ∉ Lib.itoa d := by
  intro h
  rcases itoa_cases d with ⟨u, _, e⟩ | ⟨u, _, _, e⟩
  · rw [e] at h
    have := dec_digits u _ h
    simp at this
  · rw [e] at h
    rcases List.mem_cons.1 h with h | h
    · exact absurd h (by decide)
    · have := dec_digits u _ h
      simp at this

theorem itoa_inj {a b : Int} (h : Lib.itoa a = Lib.itoa b) : a = b := by
  have hm : ∀ u v : Nat, Lib.decDigits u ≠ 45 :: Lib.decDigits v := fun u v e => by
    have := dec_digits u 45 (by rw [e]; simp)
    simp at this
  rcases itoa_cases a with ⟨u, rfl, e⟩ | ⟨u, _, rfl, e⟩ <;> rcases itoa_cases b with ⟨v, rfl, f⟩ | ⟨v, _, rfl, f⟩
  · rw [e, f] at h
    rw [← dec_val u, h, dec_val v]
  · rw [e, f] at h
    exact absurd h (hm u v)
  · rw [e, f] at h
    exact absurd h.symm (hm v u)
  · rw [e, f] at h
    have := (List.cons.inj h).2
    rw [← dec_val u, this, dec_val v]

/-- Two texts with a slash: the first parts have none. -/
theorem slash_inj {A B s t : Bs} (hA : (47 : UInt8) ∉ A) (hB : (47 : UInt8) ∉ B) (h : A ++ 47 :: s = B ++ 47 :: t) : A = B ∧ s = t := by
  induction A generalizing B with
  | nil =>
    cases B with
    | nil => exact ⟨rfl, by simpa using h⟩
    | cons b r =>
      simp at h
      exact absurd (by rw [← h.1]; simp) hB
  | cons a r ih =>
    cases B with
    | nil =>
      simp at h
      exact absurd (by rw [h.1]; simp) hA
    | cons b q =>
      simp only [List.cons_append, List.cons.injEq] at h
      obtain ⟨rfl, h⟩ := h
      obtain ⟨rfl, rfl⟩ := ih (fun q => hA (by simp [q])) (fun q => hB (by simp [q])) h
      exact ⟨rfl, rfl⟩

theorem keyL_inj {d e : Int} {s t : Bs} (h : keyL d s = keyL e t) : d = e ∧ s = t := by
  obtain ⟨h1, h2⟩ := slash_inj (itoa_slash d) (itoa_slash e) h
  exact ⟨itoa_inj h1, h2⟩

/-- Which keys are a dir's. -/
theorem keyL_prefix {d e : Int} {s : Bs} : keyL d [] <+: keyL e s ↔ d = e := by
  constructor
  · rintro ⟨r, h⟩
    unfold keyL at h
    rw [List.append_assoc] at h
    exact itoa_inj (slash_inj (itoa_slash d) (itoa_slash e) (by simpa using h)).1
  · rintro rfl
    exact ⟨s, by simp [keyL]⟩

def keyB (d : Int) (s : ByteArray) : ByteArray := strB (keyL d (bsOf s))

theorem strB_inj {a b : Bs} (h : strB a = strB b) : a = b := by
  have := congrArg bsOf h
  simpa [bsOf_strB] using this

theorem keyB_inj {d e : Int} {s t : ByteArray} (h : keyB d s = keyB e t) : d = e ∧ s = t := by
  obtain ⟨h1, h2⟩ := keyL_inj (strB_inj h)
  exact ⟨h1, by rw [← strB_bsOf s, h2, strB_bsOf]⟩

end Go.Proofs.YtjicoebcmfnooaaDoor
