/-
  Scripts as bytes: the plain functions, and what they do to one another.
-/
import Derived.Test.YtmokbgihpfnmbaaCode1
namespace Go.Proofs.Ytmokbgihpfnmbaa
open Go Go.RowKit
set_option linter.unusedSectionVars false
set_option linter.unusedSimpArgs false
set_option linter.unusedVariables false

/-- An item. -/
structure ItemV where
  kind : Int
  thread : Int
  n : Int
  call : CallV

def ItemV.none : ItemV := ⟨0, 0, 0, CallV.none⟩

def CallV.bare (c : CallV) : Bool := decide (c.op = 0) && decide (c.path.size = 0) && decide (c.to.size = 0) && decide (c.fd = 0) && decide (c.flags = 0) && decide (c.mode = 0) && decide (c.n = 0) && decide (c.m = 0) && decide (c.data.length = 0)

def ItemV.right (i : ItemV) : Int :=
  if i.kind < 1 ∨ 3 < i.kind ∨ i.thread < 0 ∨ 255 < i.thread ∨ i.n < 0 ∨ 65535 < i.n then 1
  else if i.kind = 1 then (if i.n = 0 then i.call.right else 1)
  else if i.thread = 0 ∧ i.call.bare = true then 0 else 1

def ItemV.enc (i : ItemV) : Bs := byte i.kind.toNat :: (if i.kind = 1 then byte i.thread.toNat :: i.call.enc else be2 i.n.toNat)

/-- What has been written behind acc; why not. -/
def encL : Bs → List ItemV → Bs × Int
  | acc, [] => (acc, 0)
  | acc, i :: l => if i.right = 0 then encL (acc ++ i.enc) l else ([], i.right)

def encS (l : List ItemV) : Bs × Int := if 1024 < l.length then ([], 4) else encL [] l

/-- The item with which bytes begin, and how many it has; 0: it is cut off, or refused. -/
def oneI (b : Bs) : ItemV × Nat :=
  let k := (b.getD 0 0).toNat
  if k < 1 ∨ 3 < k then (ItemV.none, 1)
  else if k ≠ 1 then (if b.length < 3 then (ItemV.none, 0) else (⟨k, 0, val2 (b.drop 1), CallV.none⟩, 3))
  else if b.length < 2 then (ItemV.none, 0)
  else match decC (b.drop 2) with
    | (c, n, e) => if e = 0 then (⟨k, (b.getD 1 0).toNat, 0, c⟩, 2 + n) else (ItemV.none, 0)

/-- At most so many items. -/
def decS : Nat → Bs → List ItemV
  | 0, _ => []
  | m + 1, b => if b.length = 0 then [] else (oneI b).1 :: (if (oneI b).2 = 0 then [] else decS m (b.drop (oneI b).2))

theorem bare_none {c : CallV} (h : c.bare = true) : c = CallV.none := by
  unfold CallV.bare at h
  simp only [Bool.and_eq_true, decide_eq_true_eq] at h
  obtain ⟨⟨⟨⟨⟨⟨⟨⟨h1, h2⟩, h3⟩, h4⟩, h5⟩, h6⟩, h7⟩, h8⟩, h9⟩ := h
  obtain ⟨op, path, to, fd, flags, mode, n, m, data⟩ := c
  simp only at *
  have e : ∀ s : ByteArray, s.size = 0 → s = ⟨#[]⟩ := fun s hs => by
    obtain ⟨d⟩ := s
    have : d = #[] := Array.eq_empty_of_size_eq_zero hs
    rw [this]
  subst h1 h4 h5 h6 h7 h8
  rw [e path h2, e to h3, List.eq_nil_of_length_eq_zero h9]
  rfl

theorem bare_is : CallV.none.bare = true := by kernel_rfl

theorem oneI_le {b : Bs} (h : 0 < b.length) : (oneI b).2 ≤ b.length := by
  unfold oneI
  simp only
  split
  · exact h
  · split
    · split
      · exact Nat.zero_le _
      · simp only; omega
    · split
      · exact Nat.zero_le _
      · obtain ⟨c, n, e, hd⟩ : ∃ c n e, decC (b.drop 2) = (c, n, e) := ⟨_, _, _, rfl⟩
        rw [hd]
        have := decC_le hd
        rw [List.length_drop] at this
        simp only
        split
        · simp only; omega
        · exact Nat.zero_le _

/-- An item that may be written. -/
theorem right_parts {i : ItemV} (h : i.right = 0) : (1 ≤ i.kind ∧ i.kind ≤ 3 ∧ 0 ≤ i.thread ∧ i.thread ≤ 255 ∧ 0 ≤ i.n ∧ i.n ≤ 65535) ∧ (i.kind = 1 → i.n = 0 ∧ i.call.right = 0) ∧ (i.kind ≠ 1 → i.thread = 0 ∧ i.call = CallV.none) := by
  unfold ItemV.right at h
  split at h
  · simp at h
  · rename_i h1
    refine ⟨by omega, fun q => ?_, fun q => ?_⟩
    · rw [if_pos q] at h
      split at h
      · rename_i h2; exact ⟨h2, h⟩
      · simp at h
    · rw [if_neg q] at h
      split at h
      · rename_i h2; exact ⟨h2.1, bare_none h2.2⟩
      · simp at h

theorem enc_pos (i : ItemV) : 0 < i.enc.length := by unfold ItemV.enc; simp

/-- What is written is read as itself, whatever stands behind it. -/
theorem oneI_enc {i : ItemV} (h : i.right = 0) (r : Bs) : oneI (i.enc ++ r) = (i, i.enc.length) := by
  obtain ⟨⟨p1, p2, p3, p4, p5, p6⟩, hs, hn⟩ := right_parts h
  obtain ⟨kind, thread, n, call⟩ := i
  simp only at *
  have hk : (byte kind.toNat).toNat = kind.toNat := by rw [byte_toNat]; omega
  unfold oneI ItemV.enc
  by_cases q : kind = 1
  · subst q
    obtain ⟨rfl, hr⟩ := hs rfl
    simp only [if_true, List.cons_append, List.getD_cons_zero, List.getD_cons_succ, List.drop_succ_cons, List.drop_zero, hk, decC_enc hr, List.length_cons]
    have ht : (byte thread.toNat).toNat = thread.toNat := by rw [byte_toNat]; omega
    rw [if_neg (by decide), if_neg (by decide), if_neg (by omega), ht]
    congr 1
    · congr 1
      omega
    · omega
  · obtain ⟨rfl, rfl⟩ := hn q
    simp only [if_neg q, List.cons_append, List.getD_cons_zero, List.drop_succ_cons, List.drop_zero, hk]
    have h2 : val2 (be2 n.toNat ++ r) = n.toNat := by
      have := val2_be2 (n := n.toNat) (by omega)
      unfold val2 be2 at *
      simpa using this
    have hl : (byte kind.toNat :: (be2 n.toNat ++ r)).length = 3 + r.length := by unfold be2; simp; omega
    rw [if_neg (by omega), if_pos (by omega), if_neg (by omega), h2]
    congr 1
    congr 1
    · omega
    · omega

/-- What an item was read from. -/
theorem oneI_inv {b : Bs} (h0 : 0 < b.length) (hk : (oneI b).1.kind ≠ 0) : (oneI b).1.right = 0 ∧ b = (oneI b).1.enc ++ b.drop (oneI b).2 ∧ (oneI b).2 = (oneI b).1.enc.length := by
  obtain ⟨x, r, rfl⟩ : ∃ x r, b = x :: r := by
    cases b with
    | nil => simp at h0
    | cons x r => exact ⟨x, r, rfl⟩
  have hx := byte_lt x
  revert hk
  unfold oneI
  simp only [List.getD_cons_zero, List.drop_succ_cons, List.drop_zero, List.getD_cons_succ]
  split
  · intro hk; exact absurd rfl hk
  · rename_i h1
    split
    · rename_i h2
      split
      · intro hk; exact absurd rfl hk
      · rename_i h3
        intro _
        obtain ⟨y, z, s, rfl⟩ : ∃ y z s, r = y :: z :: s := by
          match r, h3 with
          | y :: z :: s, _ => exact ⟨y, z, s, rfl⟩
          | [y], h => simp at h
          | [], h => simp at h
        have hv := val2_lt (y :: z :: s)
        have hv2 : val2 (y :: z :: s) = val2 [y, z] := rfl
        have hn1 : ¬ ((x.toNat : Int) = 1) := by omega
        refine ⟨?_, ?_, ?_⟩
        · unfold ItemV.right
          simp only
          rw [if_neg (by omega), if_neg hn1, if_pos ⟨trivial, bare_is⟩]
        · unfold ItemV.enc
          simp only
          rw [if_neg hn1, hv2, Int.toNat_natCast, Int.toNat_natCast, be2_val2, byte_of]
          rfl
        · unfold ItemV.enc
          simp only
          rw [if_neg hn1]
          rfl
    · rename_i h2
      have hx1 : x.toNat = 1 := by omega
      split
      · intro hk; exact absurd rfl hk
      · rename_i h3
        obtain ⟨y, s, rfl⟩ : ∃ y s, r = y :: s := by
          match r, h3 with
          | y :: s, _ => exact ⟨y, s, rfl⟩
          | [], h => simp at h
        have hy := byte_lt y
        simp only [List.drop_succ_cons, List.drop_zero, List.getD_cons_zero]
        obtain ⟨c, n, e, hd⟩ : ∃ c n e, decC s = (c, n, e) := ⟨_, _, _, rfl⟩
        rw [hd]
        simp only
        split
        · rename_i he
          subst he
          intro _
          obtain ⟨d1, d2, d3⟩ := decC_inv hd
          refine ⟨?_, ?_, ?_⟩
          · unfold ItemV.right
            simp only
            rw [if_neg (by omega), if_pos (by omega)]
            simpa using d1
          · unfold ItemV.enc
            simp only
            rw [if_pos (by omega), Int.toNat_natCast, Int.toNat_natCast, byte_of, byte_of, show 2 + n = n + 1 + 1 by omega, List.drop_succ_cons, List.drop_succ_cons, List.cons_append, List.cons_append, ← d2]
          · unfold ItemV.enc
            simp only
            rw [if_pos (by omega)]
            simp only [List.length_cons]
            omega
        · intro hk; exact absurd rfl hk

/-! ### all items -/

theorem encL_ok {l : List ItemV} (h : ∀ i ∈ l, i.right = 0) : ∀ acc, encL acc l = (acc ++ l.flatMap ItemV.enc, 0) := by
  induction l with
  | nil => intro acc; simp [encL]
  | cons i l ih =>
    intro acc
    unfold encL
    rw [if_pos (h i (List.mem_cons_self ..)), ih (fun j hj => h j (List.mem_cons_of_mem _ hj)), List.flatMap_cons, List.append_assoc]

theorem encL_inv {l : List ItemV} : ∀ {acc x : Bs}, encL acc l = (x, 0) → (∀ i ∈ l, i.right = 0) ∧ x = acc ++ l.flatMap ItemV.enc := by
  induction l with
  | nil => intro acc x h; simp only [encL, Prod.mk.injEq] at h; simp [h.1]
  | cons i l ih =>
    intro acc x h
    unfold encL at h
    split at h
    · rename_i hi
      obtain ⟨h1, h2⟩ := ih h
      refine ⟨fun j hj => ?_, by rw [h2, List.flatMap_cons, List.append_assoc]⟩
      rcases List.mem_cons.1 hj with rfl | hj
      · exact hi
      · exact h1 j hj
    · rename_i hi
      simp only [Prod.mk.injEq] at h
      exact absurd h.2 hi

theorem encS_inv {l : List ItemV} {x : Bs} (h : encS l = (x, 0)) : l.length ≤ 1024 ∧ (∀ i ∈ l, i.right = 0) ∧ x = l.flatMap ItemV.enc := by
  unfold encS at h
  split at h
  · simp at h
  · obtain ⟨h1, h2⟩ := encL_inv h
    exact ⟨by omega, h1, by simpa using h2⟩

theorem encS_ok {l : List ItemV} (hl : l.length ≤ 1024) (h : ∀ i ∈ l, i.right = 0) : encS l = (l.flatMap ItemV.enc, 0) := by
  unfold encS
  rw [if_neg (by omega), encL_ok h]
  rfl

theorem decS_enc {i : ItemV} (h : i.right = 0) (m : Nat) (r : Bs) : decS (m + 1) (i.enc ++ r) = i :: decS m r := by
  have hp := enc_pos i
  rw [decS, if_neg (by rw [List.length_append]; omega), oneI_enc h]
  simp only
  rw [if_neg (by omega), List.drop_left]

theorem decS_encs {l : List ItemV} (h : ∀ i ∈ l, i.right = 0) : ∀ (m : Nat) (r : Bs), l.length ≤ m → decS m (l.flatMap ItemV.enc ++ r) = l ++ decS (m - l.length) r := by
  induction l with
  | nil => intro m r _; simp
  | cons i l ih =>
    intro m r hm
    simp only [List.length_cons] at hm
    obtain ⟨m, rfl⟩ : ∃ k, m = k + 1 := ⟨m - 1, by omega⟩
    rw [List.flatMap_cons, List.append_assoc, decS_enc (h i (List.mem_cons_self ..)), ih (fun j hj => h j (List.mem_cons_of_mem _ hj)) m r (by omega)]
    simp

theorem decS_nil (m : Nat) : decS m [] = [] := by cases m <;> simp [decS]

theorem decS_back {l : List ItemV} {x : Bs} (h : encS l = (x, 0)) : decS 1024 x = l := by
  obtain ⟨h1, h2, rfl⟩ := encS_inv h
  have := decS_encs h2 1024 [] h1
  rw [List.append_nil] at this
  rw [this, decS_nil, List.append_nil]

theorem decS_len (b : Bs) : ∀ m, (decS m b).length ≤ m ∧ (decS m b).length ≤ b.length := by
  intro m
  induction m generalizing b with
  | zero => simp [decS]
  | succ m ih =>
    rw [decS]
    split
    · simp
    · rename_i h0
      simp only [List.length_cons]
      split
      · simp; omega
      · rename_i h1
        obtain ⟨i1, i2⟩ := ih (b.drop (oneI b).2)
        rw [List.length_drop] at i2
        omega

theorem decS_more (b : Bs) : ∀ m k, b.length ≤ m → decS (m + k) b = decS m b := by
  intro m
  induction m generalizing b with
  | zero =>
    intro k h
    obtain rfl : b = [] := List.eq_nil_of_length_eq_zero (by omega)
    rw [decS_nil, decS_nil]
  | succ m ih =>
    intro k h
    rw [show m + 1 + k = (m + k) + 1 by omega, decS, decS]
    split
    · rfl
    · split
      · rfl
      · rename_i h0 h1
        rw [ih _ k (by rw [List.length_drop]; omega)]

/-- What is read of items that may be is written and read as itself. -/
theorem decS_right (b : Bs) : ∀ m, ∀ i ∈ decS m b, i.kind ≠ 0 → i.right = 0 := by
  intro m
  induction m generalizing b with
  | zero => intro i hi; simp [decS] at hi
  | succ m ih =>
    intro i hi hk
    rw [decS] at hi
    split at hi
    · simp at hi
    · rename_i h0
      rcases List.mem_cons.1 hi with rfl | hi
      · exact (oneI_inv (by omega) hk).1
      · split at hi
        · simp at hi
        · exact ih _ i hi hk

theorem good_back (b : Bs) (m : Nat) (hm : m ≤ 1024) : encS ((decS m b).filter fun i => decide (i.kind ≠ 0)) = (((decS m b).filter fun i => decide (i.kind ≠ 0)).flatMap ItemV.enc, 0) := by
  refine encS_ok ?_ (fun i hi => ?_)
  · have := List.length_filter_le (fun i : ItemV => decide (i.kind ≠ 0)) (decS m b)
    have := (decS_len b m).1
    omega
  · obtain ⟨h1, h2⟩ := List.mem_filter.1 hi
    exact decS_right b m i h1 (of_decide_eq_true h2)

/-- An item that is cut off is none. -/
theorem oneI_cut {i : ItemV} (h : i.right = 0) {k : Nat} (h0 : 0 < k) (hk : k < i.enc.length) : oneI (i.enc.take k) = (ItemV.none, 0) := by
  obtain ⟨⟨p1, p2, p3, p4, p5, p6⟩, hs, hn⟩ := right_parts h
  obtain ⟨kind, thread, n, call⟩ := i
  simp only at *
  have hkk : (byte kind.toNat).toNat = kind.toNat := by rw [byte_toNat]; omega
  obtain ⟨k, rfl⟩ : ∃ j, k = j + 1 := ⟨k - 1, by omega⟩
  unfold ItemV.enc at hk ⊢
  simp only at hk ⊢
  by_cases q : kind = 1
  · subst q
    obtain ⟨rfl, hr⟩ := hs rfl
    simp only [if_true, List.length_cons, List.take_succ_cons] at hk ⊢
    unfold oneI
    simp only [List.getD_cons_zero, hkk, List.drop_succ_cons, List.length_cons]
    rw [if_neg (by decide), if_neg (by decide)]
    cases k with
    | zero => rfl
    | succ k =>
      simp only [List.take_succ_cons, List.length_cons, List.drop_succ_cons, List.drop_zero]
      rw [if_neg (by omega), decC_cut (CallV.fits_of hr) (by omega)]
      rfl
  · simp only [if_neg q, List.length_cons, List.take_succ_cons] at hk ⊢
    unfold oneI
    simp only [List.getD_cons_zero, hkk, List.length_cons, List.length_take]
    have : (be2 n.toNat).length = 2 := rfl
    rw [if_neg (by omega), if_pos (by omega), if_pos (by omega)]

/-- Items' bytes that are cut off: the first items, and at most one behind them that is none. -/
theorem decS_cut {l : List ItemV} (h : ∀ i ∈ l, i.right = 0) : ∀ (m k : Nat), l.length ≤ m → k ≤ (l.flatMap ItemV.enc).length →
    (k = (l.flatMap ItemV.enc).length ∧ decS m ((l.flatMap ItemV.enc).take k) = l) ∨ ∃ n, n < l.length ∧ (decS m ((l.flatMap ItemV.enc).take k) = l.take n ∨ decS m ((l.flatMap ItemV.enc).take k) = l.take n ++ [ItemV.none]) := by
  induction l with
  | nil => intro m k _ hk; left; simp at hk; simp [hk, decS_nil]
  | cons i l ih =>
    intro m k hm hk
    simp only [List.length_cons] at hm
    obtain ⟨m, rfl⟩ : ∃ j, m = j + 1 := ⟨m - 1, by omega⟩
    have hi := h i (List.mem_cons_self ..)
    rw [List.flatMap_cons] at hk ⊢
    rw [List.length_append] at hk ⊢
    by_cases hlt : k < i.enc.length
    · right
      refine ⟨0, by simp, ?_⟩
      rw [List.take_append_of_le_length (by omega)]
      by_cases h0 : k = 0
      · left; subst h0; simp [decS_nil]
      · right
        rw [decS, if_neg (by rw [List.length_take]; omega), oneI_cut hi (by omega) hlt]
        simp
    · have e : (i.enc ++ l.flatMap ItemV.enc).take k = i.enc ++ (l.flatMap ItemV.enc).take (k - i.enc.length) := by
        rw [List.take_append, List.take_of_length_le (by omega)]
      rw [e, decS_enc hi]
      rcases ih (fun j hj => h j (List.mem_cons_of_mem _ hj)) m (k - i.enc.length) (by omega) (by omega) with ⟨h1, h2⟩ | ⟨n, h1, h2⟩
      · left; exact ⟨by omega, by rw [h2]⟩
      · right
        refine ⟨n + 1, by simp; omega, ?_⟩
        rcases h2 with h2 | h2
        · left; rw [h2]; rfl
        · right; rw [h2]; rfl

end Go.Proofs.Ytmokbgihpfnmbaa
