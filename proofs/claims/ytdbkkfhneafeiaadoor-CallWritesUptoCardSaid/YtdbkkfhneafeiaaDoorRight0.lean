/-
  Why a call may not be written: the document's word (warrenref16.Right); calls that ask for nothing.
-/
import Derived.Test.YtdbkkfhneafeiaaDoorCode0
import Derived.Test.YtdbkkfhneafeiaaDoorChecked
import Derived.WalkMore
namespace Go.Proofs.YtdbkkfhneafeiaaDoor
open Go Go.RowKit
set_option linter.unusedSectionVars false
set_option linter.unusedSimpArgs false
set_option linter.unusedVariables false

/-- A call as a value; dv: its data. -/
def callA (c : CallV) (dv : Value) : Value := .agg #[.int .i64 c.op, .string c.path, .string c.to, .int .i64 c.fd, .int .i64 c.flags, .int .i64 c.mode, .int .i64 c.n, .int .i64 c.m, dv]
def callC (c : CallV) (dv : Value) : List Value := [.int .i64 c.op, .string c.path, .string c.to, .int .i64 c.fd, .int .i64 c.flags, .int .i64 c.mode, .int .i64 c.n, .int .i64 c.m, dv]

theorem small_c (n : Int) (w : World) : Calls Tryd.prog 40 #[.int .i64 n] w fun r w' => r = .returned (.bool (smallB n)) ∧ w = w' := by
  by_cases h1 : -2147483648 ≤ n
  · by_cases h2 : n ≤ 2147483647
    · have e : smallB n = true := by unfold smallB; exact decide_eq_true ⟨h1, h2⟩
      have E := Lib.hid e
      clear e
      go_enter Tryd.func40, Tryd.ntmps40
      go_wp2
      go_ret
      exact ⟨by rw [E.out]; simp [h2], rfl⟩
    · have e : smallB n = false := by unfold smallB; exact decide_eq_false (fun q => h2 q.2)
      have E := Lib.hid e
      clear e
      go_enter Tryd.func40, Tryd.ntmps40
      go_wp2
      go_ret
      exact ⟨by rw [E.out]; simp [h2], rfl⟩
  · have e : smallB n = false := by unfold smallB; exact decide_eq_false (fun q => h1 q.1)
    have E := Lib.hid e
    clear e
    go_enter Tryd.func40, Tryd.ntmps40
    go_wp2
    go_ret
    exact ⟨by rw [E.out]; simp, rfl⟩

theorem right_op {c : CallV} (h : c.op < 1 ∨ 20 < c.op) : c.right = 1 := by unfold CallV.right; rw [if_pos (by omega)]
theorem right_small {c : CallV} (h : c.smalls = false) : c.right = 1 := by unfold CallV.right; rw [if_pos (.inr (.inr h))]
theorem right_long {c : CallV} (h1 : ¬ c.op < 1) (h2 : ¬ 20 < c.op) (h : c.smalls = true) (h3 : 5000 < c.path.size ∨ 5000 < c.to.size ∨ 2000 < c.data.length) : c.right = 3 := by
  unfold CallV.right
  rw [if_neg (by rw [h]; simp; omega), if_pos h3]
theorem right_ok {c : CallV} (h1 : ¬ c.op < 1) (h2 : ¬ 20 < c.op) (h : c.smalls = true) (h3 : ¬ 5000 < c.path.size) (h4 : ¬ 5000 < c.to.size) (h5 : ¬ 2000 < c.data.length) : c.right = 0 := by
  unfold CallV.right
  rw [if_neg (by rw [h]; simp; omega), if_neg (by omega)]

set_option maxHeartbeats 4000000 in
theorem rright_c (c : CallV) (a : Option Addr) (cap : Nat) (w : World) (hl : c.path.size ≤ 9223372036854775807 ∧ c.to.size ≤ 9223372036854775807 ∧ c.data.length ≤ 9223372036854775807) :
    Calls Tryd.prog 21 #[callA c (.slice a c.data.length cap)] w fun r w' => r = .returned (.int .i64 c.right) ∧ Keep w w' (fun _ => False) := by
  obtain ⟨hl1, hl2, hl3⟩ := hl
  obtain ⟨R, hR⟩ : ∃ R, R = c.right := ⟨_, rfl⟩
  have H1 := Lib.hid (fun q => hR.trans (right_op (c := c) q))
  have H2 := Lib.hid (fun q => hR.trans (right_small (c := c) q))
  have H3 := Lib.hid (fun q1 q2 q3 q4 => hR.trans (right_long (c := c) q1 q2 q3 q4))
  have H4 := Lib.hid (fun q1 q2 q3 q4 q5 q6 => hR.trans (right_ok (c := c) q1 q2 q3 q4 q5 q6))
  rw [← hR]
  have hs : c.smalls = (smallB c.fd && smallB c.flags && smallB c.mode && smallB c.n && smallB c.m) := rfl
  rw [hs] at H2 H3 H4
  have k0 := small_c c.fd
  have k1 := small_c c.flags
  have k2 := small_c c.mode
  have k3 := small_c c.n
  have k4 := small_c c.m
  clear hR hs
  obtain ⟨op, path, to, fd, flags, mode, n, m, data⟩ := c
  simp only [callA] at *
  generalize data.length = dl at *
  generalize smallB fd = b0 at *
  generalize smallB flags = b1 at *
  generalize smallB mode = b2 at *
  generalize smallB n = b3 at *
  generalize smallB m = b4 at *
  by_cases h1 : op < 1
  · go_enter Tryd.func21, Tryd.ntmps21
    go_wp2_with fail
    go_ret
    exact ⟨by rw [H1.out (.inl h1)]; rfl, Keep.alloc _ _ _⟩
  · by_cases h2 : 20 < op
    · go_enter Tryd.func21, Tryd.ntmps21
      go_wp2_with fail
      go_ret
      exact ⟨by rw [H1.out (.inr h2)]; rfl, Keep.alloc _ _ _⟩
    · cases b0 with
      | false =>
        go_enter Tryd.func21, Tryd.ntmps21
        go_wp2_with (go_at_call 40
                     first
                     | ((with_reducible refine (k0 _).mono ?_); rintro e w' ⟨rfl, rfl⟩)
                     | ((with_reducible refine (k1 _).mono ?_); rintro e w' ⟨rfl, rfl⟩)
                     | ((with_reducible refine (k2 _).mono ?_); rintro e w' ⟨rfl, rfl⟩)
                     | ((with_reducible refine (k3 _).mono ?_); rintro e w' ⟨rfl, rfl⟩)
                     | ((with_reducible refine (k4 _).mono ?_); rintro e w' ⟨rfl, rfl⟩))
        go_ret
        exact ⟨by rw [H2.out (by simp)]; rfl, Keep.alloc _ _ _⟩
      | true =>
        cases b1 with
        | false =>
          go_enter Tryd.func21, Tryd.ntmps21
          go_wp2_with (go_at_call 40
                       first
                       | ((with_reducible refine (k0 _).mono ?_); rintro e w' ⟨rfl, rfl⟩)
                       | ((with_reducible refine (k1 _).mono ?_); rintro e w' ⟨rfl, rfl⟩)
                       | ((with_reducible refine (k2 _).mono ?_); rintro e w' ⟨rfl, rfl⟩)
                       | ((with_reducible refine (k3 _).mono ?_); rintro e w' ⟨rfl, rfl⟩)
                       | ((with_reducible refine (k4 _).mono ?_); rintro e w' ⟨rfl, rfl⟩))
          go_ret
          exact ⟨by rw [H2.out (by simp)]; rfl, Keep.alloc _ _ _⟩
        | true =>
          cases b2 with
          | false =>
            go_enter Tryd.func21, Tryd.ntmps21
            go_wp2_with (go_at_call 40
                         first
                         | ((with_reducible refine (k0 _).mono ?_); rintro e w' ⟨rfl, rfl⟩)
                         | ((with_reducible refine (k1 _).mono ?_); rintro e w' ⟨rfl, rfl⟩)
                         | ((with_reducible refine (k2 _).mono ?_); rintro e w' ⟨rfl, rfl⟩)
                         | ((with_reducible refine (k3 _).mono ?_); rintro e w' ⟨rfl, rfl⟩)
                         | ((with_reducible refine (k4 _).mono ?_); rintro e w' ⟨rfl, rfl⟩))
            go_ret
            exact ⟨by rw [H2.out (by simp)]; rfl, Keep.alloc _ _ _⟩
          | true =>
            cases b3 with
            | false =>
              go_enter Tryd.func21, Tryd.ntmps21
              go_wp2_with (go_at_call 40
                           first
                           | ((with_reducible refine (k0 _).mono ?_); rintro e w' ⟨rfl, rfl⟩)
                           | ((with_reducible refine (k1 _).mono ?_); rintro e w' ⟨rfl, rfl⟩)
                           | ((with_reducible refine (k2 _).mono ?_); rintro e w' ⟨rfl, rfl⟩)
                           | ((with_reducible refine (k3 _).mono ?_); rintro e w' ⟨rfl, rfl⟩)
                           | ((with_reducible refine (k4 _).mono ?_); rintro e w' ⟨rfl, rfl⟩))
              go_ret
              exact ⟨by rw [H2.out (by simp)]; rfl, Keep.alloc _ _ _⟩
            | true =>
              cases b4 with
              | false =>
                go_enter Tryd.func21, Tryd.ntmps21
                go_wp2_with (go_at_call 40
                             first
                             | ((with_reducible refine (k0 _).mono ?_); rintro e w' ⟨rfl, rfl⟩)
                             | ((with_reducible refine (k1 _).mono ?_); rintro e w' ⟨rfl, rfl⟩)
                             | ((with_reducible refine (k2 _).mono ?_); rintro e w' ⟨rfl, rfl⟩)
                             | ((with_reducible refine (k3 _).mono ?_); rintro e w' ⟨rfl, rfl⟩)
                             | ((with_reducible refine (k4 _).mono ?_); rintro e w' ⟨rfl, rfl⟩))
                go_ret
                exact ⟨by rw [H2.out (by simp)]; rfl, Keep.alloc _ _ _⟩
              | true =>
                by_cases g1 : 5000 < path.size
                · have g1' : (5000 : Int) < (path.size : Int) := by omega
                  go_enter Tryd.func21, Tryd.ntmps21
                  go_wp2_with (go_at_call 40
                               first
                               | ((with_reducible refine (k0 _).mono ?_); rintro e w' ⟨rfl, rfl⟩)
                               | ((with_reducible refine (k1 _).mono ?_); rintro e w' ⟨rfl, rfl⟩)
                               | ((with_reducible refine (k2 _).mono ?_); rintro e w' ⟨rfl, rfl⟩)
                               | ((with_reducible refine (k3 _).mono ?_); rintro e w' ⟨rfl, rfl⟩)
                               | ((with_reducible refine (k4 _).mono ?_); rintro e w' ⟨rfl, rfl⟩))
                  go_ret
                  exact ⟨by rw [H3.out h1 h2 rfl (.inl g1)]; rfl, Keep.alloc _ _ _⟩
                · have g1' : ¬ (5000 : Int) < (path.size : Int) := by omega
                  by_cases g2 : 5000 < to.size
                  · have g2' : (5000 : Int) < (to.size : Int) := by omega
                    go_enter Tryd.func21, Tryd.ntmps21
                    go_wp2_with (go_at_call 40
                                 first
                                 | ((with_reducible refine (k0 _).mono ?_); rintro e w' ⟨rfl, rfl⟩)
                                 | ((with_reducible refine (k1 _).mono ?_); rintro e w' ⟨rfl, rfl⟩)
                                 | ((with_reducible refine (k2 _).mono ?_); rintro e w' ⟨rfl, rfl⟩)
                                 | ((with_reducible refine (k3 _).mono ?_); rintro e w' ⟨rfl, rfl⟩)
                                 | ((with_reducible refine (k4 _).mono ?_); rintro e w' ⟨rfl, rfl⟩))
                    go_ret
                    exact ⟨by rw [H3.out h1 h2 rfl (.inr (.inl g2))]; rfl, Keep.alloc _ _ _⟩
                  · have g2' : ¬ (5000 : Int) < (to.size : Int) := by omega
                    by_cases g3 : 2000 < dl
                    · have g3' : (2000 : Int) < (dl : Int) := by omega
                      go_enter Tryd.func21, Tryd.ntmps21
                      go_wp2_with (go_at_call 40
                                   first
                                   | ((with_reducible refine (k0 _).mono ?_); rintro e w' ⟨rfl, rfl⟩)
                                   | ((with_reducible refine (k1 _).mono ?_); rintro e w' ⟨rfl, rfl⟩)
                                   | ((with_reducible refine (k2 _).mono ?_); rintro e w' ⟨rfl, rfl⟩)
                                   | ((with_reducible refine (k3 _).mono ?_); rintro e w' ⟨rfl, rfl⟩)
                                   | ((with_reducible refine (k4 _).mono ?_); rintro e w' ⟨rfl, rfl⟩))
                      go_ret
                      exact ⟨by rw [H3.out h1 h2 rfl (.inr (.inr g3))]; rfl, Keep.alloc _ _ _⟩
                    · have g3' : ¬ (2000 : Int) < (dl : Int) := by omega
                      go_enter Tryd.func21, Tryd.ntmps21
                      go_wp2_with (go_at_call 40
                                   first
                                   | ((with_reducible refine (k0 _).mono ?_); rintro e w' ⟨rfl, rfl⟩)
                                   | ((with_reducible refine (k1 _).mono ?_); rintro e w' ⟨rfl, rfl⟩)
                                   | ((with_reducible refine (k2 _).mono ?_); rintro e w' ⟨rfl, rfl⟩)
                                   | ((with_reducible refine (k3 _).mono ?_); rintro e w' ⟨rfl, rfl⟩)
                                   | ((with_reducible refine (k4 _).mono ?_); rintro e w' ⟨rfl, rfl⟩))
                      go_ret
                      exact ⟨by rw [H4.out h1 h2 rfl g1 g2 g3]; rfl, Keep.alloc _ _ _⟩

end Go.Proofs.YtdbkkfhneafeiaaDoor
