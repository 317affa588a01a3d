/-
  Plain laws of paths: what is written is read; what is clean is clean already.
-/
import Derived.Test.YtlbekofkhjkniaaDoorName2
namespace Go.Proofs.YtlbekofkhjkniaaDoor
open Go Go.RowKit
set_option linter.unusedSectionVars false
set_option linter.unusedSimpArgs false
set_option linter.unusedVariables false

/-- Slashes between parts. -/
def barP (m : Nat) : Bl := List.replicate (m + 1) 47

/-- What a path is written as, with so many slashes more. -/
def writeB (m : Nat) (root slash : Bool) (qs : List Bl) : Bl := (if root then [47] else []) ++ (Lib.join qs (barP m) ++ if slash && !qs.isEmpty then barP m else [])

theorem writeB_zero (root slash : Bool) (qs : List Bl) : writeB 0 root slash qs = writeP root slash qs := rfl

/-- A part, as Read may answer it. -/
def okP (p : Bl) : Prop := p ≠ [] ∧ (47 : UInt8) ∉ p ∧ (0 : UInt8) ∉ p ∧ p.length ≤ 255

theorem join_cons2 (x y : Bl) (r : List Bl) (sep : Bl) : Lib.join (x :: y :: r) sep = x ++ (sep ++ Lib.join (y :: r) sep) := by
  rw [Lib.join_cons, Lib.join_cons]
  simp [Lib.joinTail]

theorem parts_bar (m : Nat) (a b : Bl) : parts (a ++ (barP m ++ b)) = parts a ++ parts b := by
  unfold barP
  rw [List.replicate_succ, List.cons_append, parts_append, parts_slashes]

theorem parts_join (m : Nat) {qs : List Bl} (h : ∀ p ∈ qs, okP p) : parts (Lib.join qs (barP m)) = qs := by
  induction qs with
  | nil => rfl
  | cons x r ih =>
    have hx := h x (List.mem_cons_self ..)
    cases r with
    | nil => rw [Lib.join_one]; exact parts_free hx.2.1 hx.1
    | cons y r =>
      rw [join_cons2, parts_bar, parts_free hx.2.1 hx.1, ih (fun p hp => h p (List.mem_cons_of_mem _ hp))]
      rfl

theorem parts_write (m : Nat) (root slash : Bool) {qs : List Bl} (h : ∀ p ∈ qs, okP p) : parts (writeB m root slash qs) = qs := by
  unfold writeB
  have e : parts (Lib.join qs (barP m) ++ if slash && !qs.isEmpty then barP m else []) = qs := by
    split
    · have h2 := parts_bar m (Lib.join qs (barP m)) []
      rw [List.append_nil] at h2
      rw [h2, parts_join m h, parts_nil, List.append_nil]
    · rw [List.append_nil, parts_join m h]
  cases root
  · simpa using e
  · simp only [if_true, List.cons_append, List.nil_append]
    rw [parts_slash, e]

theorem zero_bar (m : Nat) : (0 : UInt8) ∉ barP m := by
  unfold barP
  intro h
  have := (List.mem_replicate.1 h).2
  revert this
  decide

theorem zero_join (m : Nat) {qs : List Bl} (h : ∀ p ∈ qs, okP p) : (0 : UInt8) ∉ Lib.join qs (barP m) := by
  induction qs with
  | nil => simp [Lib.join_nil]
  | cons x r ih =>
    have hx := h x (List.mem_cons_self ..)
    cases r with
    | nil => rw [Lib.join_one]; exact hx.2.2.1
    | cons y r =>
      rw [join_cons2]
      simp only [List.mem_append, not_or]
      exact ⟨hx.2.2.1, zero_bar m, ih (fun p hp => h p (List.mem_cons_of_mem _ hp))⟩

theorem zero_write (m : Nat) (root slash : Bool) {qs : List Bl} (h : ∀ p ∈ qs, okP p) : (0 : UInt8) ∉ writeB m root slash qs := by
  unfold writeB
  simp only [List.mem_append, not_or]
  refine ⟨?_, zero_join m h, ?_⟩
  · split <;> simp
  · split
    · exact zero_bar m
    · simp

theorem last_join (m : Nat) {qs : List Bl} (h : ∀ p ∈ qs, okP p) (hn : qs ≠ []) : ∃ c, (Lib.join qs (barP m)).getLast? = some c ∧ c ≠ 47 := by
  induction qs with
  | nil => exact absurd rfl hn
  | cons x r ih =>
    have hx := h x (List.mem_cons_self ..)
    cases r with
    | nil =>
      rw [Lib.join_one]
      refine ⟨_, List.getLast?_eq_some_getLast hx.1, fun e => hx.2.1 ?_⟩
      rw [← e]
      exact List.getLast_mem hx.1
    | cons y r =>
      obtain ⟨c, hc, hc2⟩ := ih (fun p hp => h p (List.mem_cons_of_mem _ hp)) (by simp)
      refine ⟨c, ?_, hc2⟩
      rw [join_cons2, List.getLast?_append, List.getLast?_append, hc]
      rfl

theorem head_join (m : Nat) {qs : List Bl} (h : ∀ p ∈ qs, okP p) (hn : qs ≠ []) (t : Bl) : ∃ c, (Lib.join qs (barP m) ++ t).head? = some c ∧ c ≠ 47 := by
  cases qs with
  | nil => exact absurd rfl hn
  | cons x r =>
    have hx := h x (List.mem_cons_self ..)
    rw [Lib.join_cons]
    cases x with
    | nil => exact absurd rfl hx.1
    | cons c x =>
      refine ⟨c, rfl, fun e => hx.2.1 ?_⟩
      rw [e]
      exact List.mem_cons_self ..

theorem read_write (m : Nat) {root slash : Bool} {qs : List Bl} (h : ∀ p ∈ qs, okP p) (hn : qs ≠ []) (hl : (writeB m root slash qs).length ≤ 4096) : readP (writeB m root slash qs) = ((root, slash, qs), 0) := by
  have hp := parts_write m root slash h
  have he : qs.isEmpty = false := by cases qs with | nil => exact absurd rfl hn | cons x r => rfl
  have e1 : decide ((writeB m root slash qs).head? = some 47) = root := by
    unfold writeB
    cases root
    · obtain ⟨c, hc, hc2⟩ := head_join m h hn (if slash && !qs.isEmpty then barP m else [])
      simp only [Bool.false_eq_true, if_false, List.nil_append]
      rw [hc]
      simpa using hc2
    · simp
  have e2 : decide ((writeB m root slash qs).getLast? = some 47) = slash := by
    unfold writeB
    rw [he]
    obtain ⟨c, hc, hc2⟩ := last_join m h hn
    cases slash
    · simp only [Bool.false_and, Bool.false_eq_true, if_false, List.append_nil]
      rw [List.getLast?_append, hc]
      simpa using hc2
    · simp only [Bool.not_false, Bool.and_self, if_true]
      have e3 : barP m = List.replicate m 47 ++ [47] := by unfold barP; exact List.replicate_succ'
      rw [e3, List.getLast?_append, List.getLast?_append, List.getLast?_append]
      simp
  have h0 : writeB m root slash qs ≠ [] := by
    intro e
    rw [e] at hp
    exact hn (hp.symm.trans parts_nil)
  rw [readP_of h0 hl (zero_write m root slash h) (by rw [hp]; exact fun p hq => (h p hq).2.2.2), hp, e1, e2]

/-! ### what is clean -/

theorem parts_okP {l : Bl} {x : Bool × Bool × List Bl} (h : readP l = (x, 0)) : ∀ p ∈ parts l, okP p := by
  obtain ⟨_, _, h2, h3, _⟩ := readP_zero h
  intro p hp
  obtain ⟨a, b, c⟩ := parts_mem hp
  exact ⟨a, b, fun q => h2 (c _ q), h3 p hp⟩

/-- A text that begins and ends so, if it has a part. -/
theorem trim (l : Bl) (hn : parts l ≠ []) : ∃ m, l = (if l.head? = some 47 then [47] else []) ++ (m ++ (if l.getLast? = some 47 then [47] else [])) ∧ parts l = parts m := by
  have key : ∀ r : Bl, parts r ≠ [] → ∃ m, r = m ++ (if r.getLast? = some 47 then [47] else []) ∧ parts r = parts m := by
    intro r hr
    by_cases h : r.getLast? = some 47
    · obtain ⟨m, rfl⟩ := List.getLast?_eq_some_iff.1 h
      refine ⟨m, by rw [if_pos h], ?_⟩
      have := parts_append m []
      rw [this, parts_nil, List.append_nil]
    · exact ⟨r, by rw [if_neg h, List.append_nil], rfl⟩
  by_cases h : l.head? = some 47
  · cases l with
    | nil => simp at h
    | cons c r =>
      simp only [List.head?_cons, Option.some.injEq] at h
      subst h
      rw [parts_slash] at hn
      obtain ⟨m, h1, h2⟩ := key r hn
      have hr0 : r ≠ [] := fun e => hn (by rw [e]; rfl)
      refine ⟨m, ?_, by rw [parts_slash, h2]⟩
      have e : (47 :: r).getLast? = r.getLast? := by
        cases r with
        | nil => exact absurd rfl hr0
        | cons a b => rw [List.getLast?_cons_cons]
      rw [if_pos (show (47 :: r).head? = some 47 from rfl), e, ← h1]
      rfl
  · obtain ⟨m, h1, h2⟩ := key l hn
    exact ⟨m, by rw [if_neg h, List.nil_append]; exact h1, h2⟩

theorem clean_len {l : Bl} {root slash : Bool} {qs : List Bl} (h1 : root = decide (l.head? = some 47)) (h2 : slash = decide (l.getLast? = some 47)) (hq : qs.Sublist (parts l)) (hn : qs ≠ []) : (writeP root slash qs).length ≤ l.length := by
  have hp : parts l ≠ [] := fun e => by rw [e] at hq; exact hn (List.sublist_nil.1 hq)
  obtain ⟨m, hm, hm2⟩ := trim l hp
  rw [hm2] at hq
  have hs := parts_sum m hq
  have hlen : l.length = (if l.head? = some 47 then 1 else 0) + (m.length + (if l.getLast? = some 47 then 1 else 0)) := by
    have := congrArg List.length hm
    rw [List.length_append, List.length_append] at this
    rw [this]
    congr 1
    · split <;> rfl
    · congr 1; split <;> rfl
  have hj : (Lib.join qs [47]).length + 1 = (qs.map List.length).sum + qs.length := by
    cases qs with
    | nil => exact absurd rfl hn
    | cons x r =>
      rw [Lib.join_length]
      have h : Lib.lens (x :: r) = ((x :: r).map List.length).sum := rfl
      rw [h]
      simp
      omega
  have hw : (writeP root slash qs).length ≤ (if root = true then 1 else 0) + ((Lib.join qs [47]).length + (if slash = true then 1 else 0)) := by
    unfold writeP
    rw [List.length_append, List.length_append]
    have a1 : (if root = true then [(47 : UInt8)] else []).length = if root = true then 1 else 0 := by split <;> rfl
    have a2 : (if (slash && !qs.isEmpty) = true then [(47 : UInt8)] else []).length ≤ if slash = true then 1 else 0 := by
      cases slash
      · simp
      · simp only [Bool.true_and]
        split <;> simp
    omega
  subst h1 h2
  simp only [decide_eq_true_eq] at hw
  omega

theorem filter_idem (ps : List Bl) : (ps.filter noDot).filter noDot = ps.filter noDot := by
  rw [List.filter_filter]
  simp

/-- What is clean is clean already; its parts are those without the points. -/
theorem clean_plain {l : Bl} (hz : (cleanP l).2 = 0) : ∃ root slash ps, readP l = ((root, slash, ps), 0) ∧ cleanP (cleanP l).1 = ((cleanP l).1, 0) ∧
    ∃ sl, readP (cleanP l).1 = ((root, sl, if ps.filter noDot = [] ∧ root = false then [[46]] else ps.filter noDot), 0) := by
  by_cases h0 : (readP l).2 = 0
  · obtain ⟨⟨root, slash, ps⟩, hr⟩ : ∃ x, readP l = (x, 0) := ⟨(readP l).1, by rw [← h0]⟩
    refine ⟨root, slash, ps, hr, ?_⟩
    have hok := parts_okP hr
    obtain ⟨a0, a1, a2, a3, a4⟩ := readP_zero hr
    simp only [Prod.mk.injEq] at a4
    obtain ⟨b1, b2, b3⟩ := a4
    by_cases h1 : ps.filter noDot = [] ∧ root = false
    · have hc : cleanP l = ([46], 0) := by
        unfold cleanP
        rw [hr]
        simp only [ne_eq, not_true_eq_false, if_false]
        rw [if_pos h1]
      rw [hc, if_pos h1]
      obtain ⟨_, rfl⟩ := h1
      exact ⟨by decide +kernel, false, by decide +kernel⟩
    · have hc : cleanP l = (writeP root slash (ps.filter noDot), 0) := by
        unfold cleanP
        rw [hr]
        simp only [ne_eq, not_true_eq_false, if_false]
        rw [if_neg h1]
      rw [hc, if_neg h1]
      by_cases h2 : ps.filter noDot = []
      · have hroot : root = true := by cases root with | true => rfl | false => exact absurd ⟨h2, rfl⟩ h1
        subst hroot
        rw [h2]
        have e : writeP true slash [] = [47] := by cases slash <;> rfl
        rw [e]
        exact ⟨by decide +kernel, true, by decide +kernel⟩
      · have hsub : (ps.filter noDot).Sublist (parts l) := by rw [← b3]; exact List.filter_sublist
        have hlen := clean_len b1 b2 hsub h2
        have hrd := read_write 0 (root := root) (slash := slash) (qs := ps.filter noDot) (fun p hp => hok p (hsub.subset hp)) h2 (by rw [writeB_zero]; omega)
        rw [writeB_zero] at hrd
        simp only
        refine ⟨?_, slash, hrd⟩
        unfold cleanP
        rw [hrd]
        simp only [ne_eq, not_true_eq_false, if_false]
        rw [filter_idem, if_neg (fun q => h2 q.1)]
  · exfalso
    unfold cleanP at hz
    rw [if_pos h0] at hz
    exact h0 hz

theorem clean_fault {l : Bl} (hz : (cleanP l).2 ≠ 0) : (cleanP l).1 = [] := by
  unfold cleanP at *
  split at hz
  · rename_i h; rw [if_pos h]
  · split at hz <;> exact absurd rfl hz

end Go.Proofs.YtlbekofkhjkniaaDoor
