/-
  Step in one word; Get.
-/
import Derived.Test.YtkdpkmlmkholmaaChain6
namespace Go.Proofs.Ytkdpkmlmkholmaa
open Go Go.RowKit
set_option linter.unusedSectionVars false
set_option linter.unusedSimpArgs false
set_option linter.unusedVariables false

/-- A step of a look that is not over. -/
def stepL (key : ByteArray) (V : LookV) : List (Nat × Pair) → LookV × List (Nat × Pair)
  | [] => ({ V with over := true, steps := V.steps + 1 }, [])
  | x :: r => if x.2.1 = key then ({ over := true, found := true, v := x.2.2, steps := V.steps + 1 }, x :: r) else ({ V with steps := V.steps + 1 }, r)

theorem step_c {w : World} {lb : Nat} {key : ByteArray} {o : Option Nat} {V : LookV} (h : LookAt w lb key o V) (hv : V.over = false) (h0 : 0 ≤ V.steps) (h1 : V.steps < 1000000) {P : List (Nat × Pair)} (hP : Seg w o P) :
    Calls Try.prog 18 #[.pointer (some ⟨lb, 0, none⟩)] w fun r w' => r = .returned (.bool (stepL key V P).1.over) ∧ ∃ o', LookAt w' lb key o' (stepL key V P).1 ∧ Seg w' o' (stepL key V P).2 ∧ Keep w w' (fun b => b = lb) := by
  cases P with
  | nil =>
    obtain rfl : o = none := hP
    refine (step_nil h hv h0 h1).mono ?_
    rintro e w' ⟨rfl, q1, q2⟩
    exact ⟨rfl, none, q1, rfl, q2⟩
  | cons x r =>
    by_cases hk : x.2.1 = key
    · refine (step_found h hv h0 h1 hP hk).mono ?_
      rintro e w' ⟨rfl, q1, q2⟩
      simp only [stepL, hk, if_true]
      exact ⟨trivial, o, q1, hP.keep q2 (fun y hy e => h.apart hP y hy e), q2⟩
    · refine (step_go h hv h0 h1 hP hk).mono ?_
      rintro e w' ⟨rfl, o', q1, q2, q3⟩
      simp only [stepL, hk, if_false]
      exact ⟨by rw [hv], o', q1, q2, q3⟩

theorem stepL_cases (key : ByteArray) (V : LookV) (P : List (Nat × Pair)) : (P = [] ∧ stepL key V P = ({ V with over := true, steps := V.steps + 1 }, [])) ∨
    (∃ x r, P = x :: r ∧ x.2.1 = key ∧ stepL key V P = ({ over := true, found := true, v := x.2.2, steps := V.steps + 1 }, x :: r)) ∨ ∃ x r, P = x :: r ∧ x.2.1 ≠ key ∧ stepL key V P = ({ V with steps := V.steps + 1 }, r) := by
  cases P with
  | nil => exact .inl ⟨rfl, rfl⟩
  | cons x r =>
    by_cases hk : x.2.1 = key
    · exact .inr (.inl ⟨x, r, rfl, hk, by simp [stepL, hk]⟩)
    · exact .inr (.inr ⟨x, r, rfl, hk, by simp [stepL, hk]⟩)

set_option maxHeartbeats 1000000 in
theorem get_c {w : World} {tb : Nat} {S : Nat → Prop} {m : Nat} {T : List Pair} (h : TabAt w tb S m T) (key : ByteArray) (hs : key.size ≤ 9223372036854775807) :
    Calls Try.prog 25 #[.pointer (some ⟨tb, 0, none⟩), .string key] w fun r w' => r = .returned (.tuple #[.int .i64 ((aget T key).getD 0), .bool (aget T key).isSome]) ∧ Keep w w' (fun _ => False) := by
  have hl := look_c h key hs
  have hlen : (chainOf T m (bucket m key)).length ≤ 64 := by
    have := List.length_filter_le (inChain m (bucket m key)) T
    have h2 := h.len
    unfold chainOf
    rw [List.length_reverse]
    omega
  have hfin : ∀ (pre : List Pair) (rest : List Pair), chainOf T m (bucket m key) = pre ++ rest → (∀ x ∈ pre, x.1 ≠ key) → (∀ x r, rest = x :: r → x.1 = key → aget T key = some x.2) ∧ (rest = [] → aget T key = none) := by
    intro pre rest hc hp
    constructor
    · rintro x r rfl hk
      have hx : x ∈ chainOf T m (bucket m key) := by rw [hc]; simp
      have := (mem_chainOf.1 hx).1
      exact pget_of_mem h.nodup (by rw [← hk]; exact this)
    · rintro rfl
      cases hg : aget T key with
      | none => rfl
      | some u =>
        have : (key, u) ∈ chainOf T m (bucket m key) := mem_chainOf.2 ⟨pget_mem hg, bucket_eq h.m1 key⟩
        rw [hc] at this
        simp at this
        exact absurd rfl (hp _ this)
  have HF := Lib.hid hfin
  generalize (aget T key) = A at *
  generalize hC : chainOf T m (bucket m key) = C at *
  clear hfin h
  go_enter Try.func25, Try.ntmps25
  go_wp2_with (
    go_at_call 16
    refine hl.mono ?_
    rintro e w1 ⟨lb, o, P, rfl, hlb, hk, hL, hP, hPv, _⟩
    have L1 := Lib.hid (And.intro hlb (And.intro hk (And.intro hL (And.intro hP hPv))))
    clear hlb hk hL hP hPv)
  go_loopg [] (C.length + 1) (fun g wr => ∃ o P V pre, Keep w wr (fun _ => False) ∧ LookAt wr lb key o V ∧ Seg wr o P ∧ V.over = false ∧ V.found = false ∧ V.v = 0 ∧ 0 ≤ V.steps ∧ V.steps + P.length ≤ 64 ∧ g = P.length + 1 ∧ C = pre ++ P.map Prod.snd ∧ (∀ x ∈ pre, x.1 ≠ key) ∧ w.heap.size ≤ lb)
  case atStart =>
    obtain ⟨a1, a2, a3, a4, a5⟩ := L1.out
    refine ⟨o, P, _, [], a2, a3, a4, rfl, rfl, rfl, by simp, ?_, ?_, by simpa using a5.symm, by simp, a1⟩
    · rw [← a5] at hlen; simp at hlen ⊢; omega
    · rw [← a5]; simp
  case round =>
    obtain ⟨o, P, V, pre, hk, hL, hP, v1, v2, v3, v4, v5, v6, hC2, hpre, hlb⟩ := hrel
    have hst := step_c hL v1 v4 (by omega) hP
    have R := Lib.hid (And.intro hk (And.intro hC2 (And.intro hpre (And.intro hlb (And.intro v1 (And.intro v2 (And.intro v3 (And.intro v4 (And.intro v5 v6)))))))))
    clear hk hL hP v1 v2 v3 v4 v5 hC2 hpre hlb
    generalize hQ : stepL key V P = Q at *
    have HQ := Lib.hid hQ
    clear hQ
    have hq : Q.1.over = true ∨ Q.1.over = false := by cases Q.1.over <;> simp
    rcases hq with hq | hq
    · rw [hq] at hst
      have HQ2 := Lib.hid hq
      clear hq
      go_wp2_with (first
        | (go_at_call 18
           refine hst.mono ?_
           rintro e w2 ⟨rfl, o', q1, q2, q3⟩
           have hfd := found_c q1
           have Q3 := Lib.hid q3
           clear q1 q2 q3)
        | (go_at_call 19
           refine hfd.mono ?_
           rintro e w3 ⟨rfl, q4, hq4⟩
           have Q4 := Lib.hid hq4
           clear hq4))
      go_ret2
      obtain ⟨hk, hC2, hpre, hlb, v1, v2, v3, v4, v5, v6⟩ := R.out
      obtain ⟨f1, f2⟩ := HF.out pre _ hC2 hpre
      have hkeep : Keep w w3 (fun _ => False) := by
        rw [Q4.out]
        exact (hk.trans Q3.out (fun b q => .inr (by rw [show b = lb from q]; exact hlb))).trans (Turn.drewN w2 (fun _ => False) q4).keep (fun _ q => q.elim)
      refine ⟨?_, hkeep⟩
      rcases stepL_cases key V P with ⟨rfl, e⟩ | ⟨x, r, rfl, hx, e⟩ | ⟨x, r, rfl, hx, e⟩
      · rw [HQ.out] at e
        rw [f2 rfl, e]
        simp [v2, v3]
      · rw [HQ.out] at e
        rw [f1 x.2 _ rfl hx, e]
        rfl
      · rw [HQ.out] at e
        have := HQ2.out
        rw [e] at this
        simp [v1] at this
    · rw [hq] at hst
      have HQ2 := Lib.hid hq
      clear hq
      go_wp2_with (first
        | (go_at_call 18
           refine hst.mono ?_
           rintro e w2 ⟨rfl, o', q1, q2, q3⟩
           have Q3 := Lib.hid (And.intro q1 (And.intro q2 q3))
           clear q1 q2 q3)
        | fail)
      obtain ⟨hk, hC2, hpre, hlb, v1, v2, v3, v4, v5, v6⟩ := R.out
      obtain ⟨q1, q2, q3⟩ := Q3.out
      rcases stepL_cases key V P with ⟨rfl, e⟩ | ⟨x, r, rfl, hx, e⟩ | ⟨x, r, rfl, hx, e⟩
      · rw [HQ.out] at e
        have := HQ2.out
        rw [e] at this
        simp at this
      · rw [HQ.out] at e
        have := HQ2.out
        rw [e] at this
        simp at this
      · rw [HQ.out] at e
        subst e
        go_roundg (r.length + 1)
        case measure => rw [v6]; simp
        case rel =>
          refine ⟨o', r, _, pre ++ [x.2], hk.trans q3 (fun b q => .inr (by rw [show b = lb from q]; exact hlb)), q1, q2, v1, v2, v3, by simp; omega, by simp at v5 ⊢; omega, rfl, by rw [hC2]; simp, ?_, hlb⟩
          intro y hy
          rcases List.mem_append.1 hy with hy | hy
          · exact hpre y hy
          · simp at hy; subst hy; exact hx

end Go.Proofs.Ytkdpkmlmkholmaa
