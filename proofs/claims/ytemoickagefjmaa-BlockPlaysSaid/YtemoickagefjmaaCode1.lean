/-
  Calls as bytes: what is written is read, what is read was written.
-/
import Derived.Test.YtemoickagefjmaaCode0
namespace Go.Proofs.Ytemoickagefjmaa
open Go Go.RowKit
set_option linter.unusedSectionVars false
set_option linter.unusedSimpArgs false
set_option linter.unusedVariables false

theorem byte_toNat (n : Nat) : (byte n).toNat = n % 256 := by
  unfold byte; simp

theorem byte_of (u : UInt8) : byte u.toNat = u := by
  unfold byte; simp

theorem byte_eq {n : Nat} {u : UInt8} (h : n % 256 = u.toNat) : byte n = u := by
  apply UInt8.toNat_inj.1
  rw [byte_toNat, h]

theorem val2_be2 {n : Nat} (h : n < 65536) : val2 (be2 n) = n := by
  unfold val2 be2
  simp only [List.getD_cons_zero, List.getD_cons_succ, byte_toNat]
  omega

theorem be2_val2 (x y : UInt8) : be2 (val2 [x, y]) = [x, y] := by
  have hx := byte_lt x
  have hy := byte_lt y
  unfold be2 val2
  simp only [List.getD_cons_zero, List.getD_cons_succ]
  rw [byte_eq (u := x) (by omega), byte_eq (u := y) (by omega)]

theorem sgn_val4 {n : Int} (h : smallB n = true) : sgn (val4 (be4 n)) = n := by
  unfold smallB at h
  have h := of_decide_eq_true h
  have hu : (u32 n : Int) = n % 4294967296 := by
    unfold u32
    exact Int.toNat_of_nonneg (Int.emod_nonneg _ (by decide))
  have hb : u32 n < 4294967296 := by
    have : n % 4294967296 < 4294967296 := Int.emod_lt_of_pos _ (by decide)
    omega
  have hv : val4 (be4 n) = u32 n := by
    unfold val4 be4
    simp only [List.getD_cons_zero, List.getD_cons_succ, byte_toNat]
    omega
  rw [hv]
  unfold sgn
  split <;> omega

theorem be4_val4 (x y z u : UInt8) : be4 (sgn (val4 [x, y, z, u])) = [x, y, z, u] := by
  have hx := byte_lt x
  have hy := byte_lt y
  have hz := byte_lt z
  have hu := byte_lt u
  obtain ⟨V, hV⟩ : ∃ V, V = val4 [x, y, z, u] := ⟨_, rfl⟩
  have hV' : V = x.toNat * 16777216 + y.toNat * 65536 + z.toNat * 256 + u.toNat := hV
  rw [← hV]
  have e : u32 (sgn V) = V := by
    unfold u32 sgn
    split <;> omega
  unfold be4
  rw [e, byte_eq (u := x) (by omega), byte_eq (u := y) (by omega), byte_eq (u := z) (by omega), byte_eq (u := u) (by omega)]

theorem small_sgn (n : Nat) (h : n < 4294967296) : smallB (sgn n) = true := by
  unfold smallB sgn
  apply decide_eq_true
  split <;> omega

/-- From p on b is l and what r says. -/
theorem takeS_at {b l r : Bs} {p n : Nat} (h : b.drop p = l ++ r) (hp : p ≤ b.length) (hn : l.length = n) : takeS b (some p) n = (l, some (p + n)) ∧ b.drop (p + n) = r ∧ p + n ≤ b.length := by
  have hl := congrArg List.length h
  rw [List.length_drop, List.length_append] at hl
  refine ⟨?_, ?_, by omega⟩
  · rw [takeS_some (by omega), h, ← hn, List.take_left]
  · rw [← List.drop_drop, h, ← hn, List.drop_left]

theorem textS_at {b l r : Bs} {p : Nat} (h : b.drop p = txt l ++ r) (hp : p ≤ b.length) (hl : l.length < 65536) : textS b (some p) = (l, some (p + (2 + l.length))) ∧ b.drop (p + (2 + l.length)) = r ∧ p + (2 + l.length) ≤ b.length := by
  unfold txt at h
  rw [List.append_assoc] at h
  obtain ⟨h1, h2, h3⟩ := takeS_at h hp (n := 2) rfl
  obtain ⟨h4, h5, h6⟩ := takeS_at h2 h3 (n := l.length) rfl
  rw [Nat.add_assoc] at h5 h6 h4
  refine ⟨?_, h5, h6⟩
  unfold textS
  rw [h1]
  simp only
  rw [val2_be2 hl, h4]

theorem fourS_at {b r : Bs} {p : Nat} {n : Int} (h : b.drop p = be4 n ++ r) (hp : p ≤ b.length) (hl : smallB n = true) : fourS b (some p) = (n, some (p + 4)) ∧ b.drop (p + 4) = r ∧ p + 4 ≤ b.length := by
  obtain ⟨h1, h2, h3⟩ := takeS_at h hp (n := 4) rfl
  refine ⟨?_, h2, h3⟩
  unfold fourS
  rw [h1]
  simp only
  rw [sgn_val4 hl]

/-- A call that may be in bytes. -/
structure CallV.fits (c : CallV) : Prop where
  op : 0 ≤ c.op ∧ c.op < 256
  path : c.path.size < 65536
  to : c.to.size < 65536
  data : c.data.length < 65536
  smalls : c.smalls = true

theorem CallV.fits_of {c : CallV} (h : c.right = 0) : c.fits := by
  unfold CallV.right at h
  split at h
  · simp at h
  · rename_i h1
    split at h
    · simp at h
    · rename_i h2
      have hs : c.smalls = true := by
        cases q : c.smalls with
        | true => rfl
        | false => exact absurd (.inr (.inr q)) h1
      exact ⟨by omega, by omega, by omega, by omega, hs⟩

theorem CallV.smalls_of {c : CallV} (h : c.smalls = true) : smallB c.fd = true ∧ smallB c.flags = true ∧ smallB c.mode = true ∧ smallB c.n = true ∧ smallB c.m = true := by
  unfold CallV.smalls at h
  simp only [Bool.and_eq_true] at h
  exact ⟨h.1.1.1.1, h.1.1.1.2, h.1.1.2, h.1.2, h.2⟩

theorem enc_length (c : CallV) : c.enc.length = 27 + c.path.size + c.to.size + c.data.length := by
  unfold CallV.enc CallV.nums txt be2 be4
  simp only [List.length_cons, List.length_append, List.length_nil, bsOf_len]
  omega

/-- What is written is read, whatever stands behind it. -/
theorem callS_enc {c : CallV} (h : c.fits) (r : Bs) : callS (c.enc ++ r) = (c, some c.enc.length) := by
  obtain ⟨s1, s2, s3, s4, s5⟩ := CallV.smalls_of h.smalls
  have hl := enc_length c
  generalize hb : c.enc ++ r = b
  have e : b.drop 0 = [byte c.op.toNat] ++ (txt (bsOf c.path) ++ (txt (bsOf c.to) ++ (be4 c.fd ++ (be4 c.flags ++ (be4 c.mode ++ (be4 c.n ++ (be4 c.m ++ (txt c.data ++ r)))))))) := by
    rw [List.drop_zero, ← hb]
    unfold CallV.enc CallV.nums
    simp only [List.cons_append, List.nil_append, List.append_assoc]
  obtain ⟨t0, e, p0⟩ := takeS_at e (Nat.zero_le _) (n := 1) rfl
  obtain ⟨t1, e, p1⟩ := textS_at e p0 h.path
  obtain ⟨t2, e, p2⟩ := textS_at e p1 h.to
  obtain ⟨t3, e, p3⟩ := fourS_at e p2 s1
  obtain ⟨t4, e, p4⟩ := fourS_at e p3 s2
  obtain ⟨t5, e, p5⟩ := fourS_at e p4 s3
  obtain ⟨t6, e, p6⟩ := fourS_at e p5 s4
  obtain ⟨t7, e, p7⟩ := fourS_at e p6 s5
  obtain ⟨t8, e, p8⟩ := textS_at e p7 h.data
  have hop : opS b (some 0) = (c.op, some (0 + 1)) := by
    unfold opS
    rw [t0]
    simp only [List.getD_cons_zero, byte_toNat]
    have := h.op
    congr 1
    omega
  unfold callS
  simp only [hop, t1, t2, t3, t4, t5, t6, t7, t8, strB_bsOf]
  obtain ⟨op, path, to, fd, flags, mode, n, m, data⟩ := c
  simp only [bsOf_len] at *
  congr 2
  omega

theorem len_one {k : Bs} (h : k.length = 1) : ∃ x, k = [x] := by
  match k, h with
  | [x], _ => exact ⟨x, rfl⟩
theorem len_two {k : Bs} (h : k.length = 2) : ∃ x y, k = [x, y] := by
  match k, h with
  | [x, y], _ => exact ⟨x, y, rfl⟩
theorem len_four {k : Bs} (h : k.length = 4) : ∃ x y z u, k = [x, y, z, u] := by
  match k, h with
  | [x, y, z, u], _ => exact ⟨x, y, z, u, rfl⟩

theorem takeS_inv {b l : Bs} {s : St} {n q : Nat} (h : takeS b s n = (l, some q)) : ∃ p, s = some p ∧ b.drop p = l ++ b.drop q ∧ q = p + n ∧ q ≤ b.length ∧ l.length = n := by
  cases s with
  | none => simp [takeS] at h
  | some p =>
    unfold takeS at h
    simp only at h
    split at h
    · rename_i hq
      simp only [Prod.mk.injEq, Option.some.injEq] at h
      obtain ⟨rfl, rfl⟩ := h
      refine ⟨p, rfl, ?_, rfl, hq, by rw [List.length_take, List.length_drop]; omega⟩
      rw [← List.drop_drop, List.take_append_drop]
    · simp at h

theorem textS_inv {b l : Bs} {s : St} {q : Nat} (h : textS b s = (l, some q)) : ∃ p, s = some p ∧ b.drop p = txt l ++ b.drop q ∧ q = p + (2 + l.length) ∧ q ≤ b.length ∧ l.length < 65536 := by
  unfold textS at h
  obtain ⟨k, s1, hs⟩ : ∃ k s1, takeS b s 2 = (k, s1) := ⟨_, _, rfl⟩
  rw [hs] at h
  cases s1 with
  | none => simp at h
  | some p1 =>
    simp only at h
    obtain ⟨p, rfl, h1, h2, h3, h4⟩ := takeS_inv hs
    obtain ⟨p1', e, h5, h6, h7, h8⟩ := takeS_inv h
    cases e
    obtain ⟨x, y, rfl⟩ := len_two h4
    have := val2_lt [x, y]
    refine ⟨p, rfl, ?_, by omega, h7, by omega⟩
    unfold txt
    rw [h1, h5, h8, be2_val2, List.append_assoc]

theorem fourS_inv {b : Bs} {s : St} {n : Int} {q : Nat} (h : fourS b s = (n, some q)) : ∃ p, s = some p ∧ b.drop p = be4 n ++ b.drop q ∧ q = p + 4 ∧ q ≤ b.length ∧ smallB n = true := by
  unfold fourS at h
  obtain ⟨k, s1, hs⟩ : ∃ k s1, takeS b s 4 = (k, s1) := ⟨_, _, rfl⟩
  rw [hs] at h
  cases s1 with
  | none => simp at h
  | some p1 =>
    simp only [Prod.mk.injEq, Option.some.injEq] at h
    obtain ⟨rfl, rfl⟩ := h
    obtain ⟨p, rfl, h1, h2, h3, h4⟩ := takeS_inv hs
    obtain ⟨x, y, z, u, rfl⟩ := len_four h4
    have hv : val4 [x, y, z, u] < 4294967296 := by
      have hx := byte_lt x
      have hy := byte_lt y
      have hz := byte_lt z
      have hu := byte_lt u
      show x.toNat * 16777216 + y.toNat * 65536 + z.toNat * 256 + u.toNat < _
      omega
    exact ⟨p, rfl, by rw [be4_val4]; exact h1, h2, h3, small_sgn _ hv⟩

/-- What is read was written. -/
theorem callS_inv {b : Bs} {c : CallV} {n : Nat} (h : callS b = (c, some n)) : c.fits ∧ b = c.enc ++ b.drop n ∧ n = c.enc.length := by
  unfold callS at h
  obtain ⟨op, s0, h0⟩ : ∃ x s, opS b (some 0) = (x, s) := ⟨_, _, rfl⟩
  obtain ⟨t1, s1, h1⟩ : ∃ x s, textS b s0 = (x, s) := ⟨_, _, rfl⟩
  obtain ⟨t2, s2, h2⟩ : ∃ x s, textS b s1 = (x, s) := ⟨_, _, rfl⟩
  obtain ⟨t3, s3, h3⟩ : ∃ x s, fourS b s2 = (x, s) := ⟨_, _, rfl⟩
  obtain ⟨t4, s4, h4⟩ : ∃ x s, fourS b s3 = (x, s) := ⟨_, _, rfl⟩
  obtain ⟨t5, s5, h5⟩ : ∃ x s, fourS b s4 = (x, s) := ⟨_, _, rfl⟩
  obtain ⟨t6, s6, h6⟩ : ∃ x s, fourS b s5 = (x, s) := ⟨_, _, rfl⟩
  obtain ⟨t7, s7, h7⟩ : ∃ x s, fourS b s6 = (x, s) := ⟨_, _, rfl⟩
  obtain ⟨t8, s8, h8⟩ : ∃ x s, textS b s7 = (x, s) := ⟨_, _, rfl⟩
  simp only [h0, h1, h2, h3, h4, h5, h6, h7, h8, Prod.mk.injEq] at h
  obtain ⟨rfl, rfl⟩ := h
  obtain ⟨p7, rfl, g8, q8, l8, m8⟩ := textS_inv h8
  obtain ⟨p6, rfl, g7, q7, l7, m7⟩ := fourS_inv h7
  obtain ⟨p5, rfl, g6, q6, l6, m6⟩ := fourS_inv h6
  obtain ⟨p4, rfl, g5, q5, l5, m5⟩ := fourS_inv h5
  obtain ⟨p3, rfl, g4, q4, l4, m4⟩ := fourS_inv h4
  obtain ⟨p2, rfl, g3, q3, l3, m3⟩ := fourS_inv h3
  obtain ⟨p1, rfl, g2, q2, l2, m2⟩ := textS_inv h2
  obtain ⟨p0, rfl, g1, q1, l1, m1⟩ := textS_inv h1
  unfold opS at h0
  obtain ⟨k, s, hs⟩ : ∃ k s, takeS b (some 0) 1 = (k, s) := ⟨_, _, rfl⟩
  rw [hs] at h0
  cases s with
  | none => simp at h0
  | some p =>
    simp only [Prod.mk.injEq, Option.some.injEq] at h0
    obtain ⟨rfl, rfl⟩ := h0
    obtain ⟨p', e, g0, q0, l0, m0⟩ := takeS_inv hs
    cases e
    obtain ⟨x, rfl⟩ := len_one m0
    have hx := byte_lt x
    have hb : b = (⟨((([x] : Bs).getD 0 0).toNat : Int), strB t1, strB t2, t3, t4, t5, t6, t7, t8⟩ : CallV).enc ++ b.drop n := by
      conv => lhs; rw [← List.drop_zero (l := b), g0, g1, g2, g3, g4, g5, g6, g7, g8]
      unfold CallV.enc CallV.nums
      simp only [List.cons_append, List.nil_append, List.append_assoc, bsOf_strB, List.getD_cons_zero, Int.toNat_natCast, byte_of]
    refine ⟨⟨by simp only [List.getD_cons_zero]; omega, by rw [strB_size]; exact m1, by rw [strB_size]; exact m2, m8, ?_⟩, hb, ?_⟩
    · unfold CallV.smalls
      simp only [m3, m4, m5, m6, m7, Bool.and_self]
    · rw [enc_length]
      simp only [strB_size]
      omega

theorem decC_enc {c : CallV} (h : c.right = 0) (r : Bs) : decC (c.enc ++ r) = (c, c.enc.length, 0) := by
  unfold decC
  rw [callS_enc (CallV.fits_of h)]
  simp only [h, if_true]

/-- What is read, as bytes. -/
theorem decC_inv {b : Bs} {c : CallV} {n : Nat} (h : decC b = (c, n, 0)) : c.right = 0 ∧ b = c.enc ++ b.drop n ∧ n = c.enc.length := by
  unfold decC at h
  obtain ⟨c', s, hs⟩ : ∃ c s, callS b = (c, s) := ⟨_, _, rfl⟩
  rw [hs] at h
  cases s with
  | none => simp at h
  | some p =>
    simp only at h
    split at h
    · rename_i hr
      simp only [Prod.mk.injEq] at h
      obtain ⟨rfl, rfl, _⟩ := h
      obtain ⟨_, h2, h3⟩ := callS_inv hs
      exact ⟨hr, h2, h3⟩
    · rename_i hr
      simp only [Prod.mk.injEq] at h
      exact absurd h.2.2 hr

theorem decC_le {b : Bs} {c : CallV} {n : Nat} {e : Int} (h : decC b = (c, n, e)) : n ≤ b.length := by
  unfold decC at h
  obtain ⟨c', s, hs⟩ : ∃ c s, callS b = (c, s) := ⟨_, _, rfl⟩
  rw [hs] at h
  cases s with
  | none => simp only [Prod.mk.injEq] at h; omega
  | some p =>
    obtain ⟨_, h2, h3⟩ := callS_inv hs
    have := congrArg List.length h2
    rw [List.length_append] at this
    simp only at h
    split at h
    · simp only [Prod.mk.injEq] at h; omega
    · simp only [Prod.mk.injEq] at h; omega

/-- One that is cut off is none. -/
theorem decC_cut {c : CallV} (h : c.fits) {k : Nat} (hk : k < c.enc.length) : decC (c.enc.take k) = (CallV.none, 0, 10) := by
  unfold decC
  obtain ⟨c', s, hs⟩ : ∃ c' s, callS (c.enc.take k) = (c', s) := ⟨_, _, rfl⟩
  rw [hs]
  cases s with
  | none => rfl
  | some p =>
    exfalso
    obtain ⟨h1, h2, h3⟩ := callS_inv hs
    have e : c.enc = c'.enc ++ ((c.enc.take k).drop p ++ c.enc.drop k) := by
      conv => lhs; rw [← List.take_append_drop k c.enc, h2]
      rw [List.append_assoc]
    have f1 := callS_enc h []
    rw [List.append_nil, e, callS_enc h1] at f1
    simp only [Prod.mk.injEq, Option.some.injEq] at f1
    have hl := congrArg List.length h2
    rw [List.length_append, List.length_take] at hl
    have := f1.2
    rw [← e] at this
    omega

end Go.Proofs.Ytemoickagefjmaa
