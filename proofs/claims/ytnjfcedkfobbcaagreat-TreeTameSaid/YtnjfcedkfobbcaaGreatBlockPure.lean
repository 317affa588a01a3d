/-
  Plain words for what a pool of blocks is, and what its calls make of it. No program stands here but the shapes in memory.
-/
import Derived.Test.YtnjfcedkfobbcaaGreatLaws
namespace Go.Proofs.YtnjfcedkfobbcaaGreat
open Go Go.RowKit
set_option linter.unusedSectionVars false
set_option linter.unusedSimpArgs false
set_option linter.unusedVariables false
set_option maxRecDepth 100000

/-- A file: how long, at which places it has blocks, its bytes. -/
structure FileV where
  size : Int
  keys : List Int
  byte : Int → Int
structure PoolV where
  left : Int
  made : Int
  files : List (Int × FileV)

def FileV.ok (F : FileV) : Prop :=
  0 ≤ F.size ∧ F.size ≤ 1024 ∧ F.keys.Nodup ∧ (∀ k ∈ F.keys, 0 ≤ k ∧ k < 64) ∧ (∀ p, p / 16 ∉ F.keys → F.byte p = 0) ∧ ∀ p, 0 ≤ F.byte p ∧ F.byte p < 256

def FileV.empty : FileV := ⟨0, [], fun _ => 0⟩

theorem FileV.empty_ok : FileV.empty.ok := ⟨by simp [FileV.empty], by simp [FileV.empty], by simp [FileV.empty], by simp [FileV.empty], by simp [FileV.empty], by simp [FileV.empty]⟩

/-- The places from one to another. -/
def span (a b : Int) : List Int := (List.range (b + 1 - a).toNat).map fun (i : Nat) => a + i

/-- How many of these places have no block. -/
def FileV.lacks (F : FileV) (at_ e : Int) : Int := ((span (at_ / 16) ((e - 1) / 16)).filter (fun k => !decide (k ∈ F.keys))).length

def FileV.addKey (F : FileV) (k : Int) : FileV := if k ∈ F.keys then F else { F with keys := F.keys ++ [k] }
def FileV.setByte (F : FileV) (p c : Int) : FileV := { F with byte := fun q => if q = p then c else F.byte q }
def FileV.put (F : FileV) (p c : Int) : FileV := (F.addKey (p / 16)).setByte p c
def FileV.puts (F : FileV) (p : Int) : List Int → FileV
  | [] => F
  | c :: r => (F.put p c).puts (p + 1) r

theorem FileV.puts_snoc (l : List Int) (c : Int) : ∀ (F : FileV) (p : Int), F.puts p (l ++ [c]) = (F.puts p l).put (p + l.length) c := by
  induction l with
  | nil => intro F p; simp [FileV.puts]
  | cons x r ih =>
    intro F p
    simp only [List.cons_append, FileV.puts, ih, List.length_cons]
    congr 1
    omega

theorem FileV.addKey_size (F : FileV) (k : Int) : (F.addKey k).size = F.size := by unfold FileV.addKey; split <;> rfl
theorem FileV.addKey_byte (F : FileV) (k : Int) : (F.addKey k).byte = F.byte := by unfold FileV.addKey; split <;> rfl
theorem FileV.mem_addKey (F : FileV) (k x : Int) : x ∈ (F.addKey k).keys ↔ x ∈ F.keys ∨ x = k := by
  unfold FileV.addKey
  split
  · rename_i h
    exact ⟨fun q => .inl q, fun q => q.elim id (fun e => e ▸ h)⟩
  · simp

theorem FileV.addKey_ok {F : FileV} (h : F.ok) {k : Int} (h0 : 0 ≤ k) (h1 : k < 64) : (F.addKey k).ok := by
  obtain ⟨a, a', b, c, d, e⟩ := h
  refine ⟨by rw [FileV.addKey_size]; exact a, by rw [FileV.addKey_size]; exact a', ?_, ?_, ?_, ?_⟩
  · unfold FileV.addKey
    split
    · exact b
    · rename_i hk
      exact List.nodup_append.2 ⟨b, by simp, fun x hx y hy q => by simp at hy; subst hy; exact hk (q ▸ hx)⟩
  · intro x hx
    rcases (F.mem_addKey k x).1 hx with q | q
    · exact c x q
    · subst q; exact ⟨h0, h1⟩
  · intro p hp
    rw [FileV.addKey_byte]
    exact d p (fun q => hp ((F.mem_addKey k _).2 (.inl q)))
  · rw [FileV.addKey_byte]; exact e

theorem FileV.setByte_ok {F : FileV} (h : F.ok) {p c : Int} (hk : p / 16 ∈ F.keys) (hc : 0 ≤ c ∧ c < 256) : (F.setByte p c).ok := by
  obtain ⟨a, a', b, k, d, e⟩ := h
  refine ⟨a, a', b, k, ?_, ?_⟩
  · intro q hq
    show (if q = p then c else F.byte q) = 0
    rw [if_neg (fun (z : q = p) => hq (by rw [z]; exact hk))]
    exact d q hq
  · intro q
    show 0 ≤ (if q = p then c else F.byte q) ∧ _ < _
    show 0 ≤ (if q = p then c else F.byte q) ∧ (if q = p then c else F.byte q) < 256
    split
    · exact hc
    · exact e q

theorem FileV.put_ok {F : FileV} (h : F.ok) {p c : Int} (h0 : 0 ≤ p) (h1 : p < 1024) (hc : 0 ≤ c ∧ c < 256) : (F.put p c).ok :=
  FileV.setByte_ok (FileV.addKey_ok h (by omega) (by omega)) ((F.mem_addKey _ _).2 (.inr rfl)) hc

theorem FileV.puts_ok (l : List Int) : ∀ {F : FileV} {p : Int}, F.ok → 0 ≤ p → p + l.length ≤ 1024 → (∀ c ∈ l, 0 ≤ c ∧ c < 256) → (F.puts p l).ok := by
  induction l with
  | nil => intro F p h _ _ _; exact h
  | cons x r ih =>
    intro F p h h0 h1 hl
    simp only [List.length_cons] at h1
    exact ih (FileV.put_ok h h0 (by omega) (hl x (by simp))) (by omega) (by omega) (fun c hc => hl c (by simp [hc]))

theorem FileV.puts_size (l : List Int) : ∀ (F : FileV) (p : Int), (F.puts p l).size = F.size := by
  induction l with
  | nil => intro F p; rfl
  | cons x r ih => intro F p; simp only [FileV.puts, ih]; exact F.addKey_size _

theorem FileV.puts_byte (l : List Int) : ∀ (F : FileV) (p q : Int), (F.puts p l).byte q = if p ≤ q ∧ q < p + l.length then l.getD (q - p).toNat 0 else F.byte q := by
  induction l with
  | nil => intro F p q; simp [FileV.puts]; intro h h'; omega
  | cons x r ih =>
    intro F p q
    simp only [FileV.puts, ih, List.length_cons]
    by_cases h : p + 1 ≤ q ∧ q < p + 1 + r.length
    · rw [if_pos h, if_pos (by omega)]
      have : (q - p).toNat = (q - (p + 1)).toNat + 1 := by omega
      rw [this, List.getD_cons_succ]
    · rw [if_neg h]
      show (if q = p then x else (F.addKey (p / 16)).byte q) = _
      by_cases hq : q = p
      · rw [if_pos hq, if_pos (by omega)]
        have : (q - p).toNat = 0 := by omega
        rw [this]; rfl
      · rw [if_neg hq, if_neg (by omega), F.addKey_byte]

theorem mem_span (a b x : Int) : x ∈ span a b ↔ a ≤ x ∧ x ≤ b := by
  unfold span
  simp only [List.mem_map, List.mem_range]
  constructor
  · rintro ⟨i, hi, rfl⟩; omega
  · intro h; exact ⟨(x - a).toNat, by omega, by omega⟩

theorem span_nodup (a b : Int) : (span a b).Nodup := by
  unfold span List.Nodup
  rw [List.pairwise_map]
  exact List.Pairwise.imp_of_mem (fun _ _ h e => h (by omega)) (List.nodup_range (n := (b + 1 - a).toNat))

theorem FileV.mem_puts (l : List Int) : ∀ (F : FileV) (p x : Int), x ∈ (F.puts p l).keys ↔ x ∈ F.keys ∨ (l ≠ [] ∧ p / 16 ≤ x ∧ x ≤ (p + l.length - 1) / 16) := by
  induction l with
  | nil => intro F p x; simp [FileV.puts]
  | cons c r ih =>
    intro F p x
    simp only [FileV.puts, ih, List.length_cons]
    have hm : x ∈ (F.put p c).keys ↔ x ∈ F.keys ∨ x = p / 16 := F.mem_addKey _ _
    rw [hm]
    by_cases hr : r = []
    · subst hr; simp; constructor
      · rintro (h | h)
        · exact .inl h
        · right; subst h; omega
      · rintro (h | h)
        · exact .inl h
        · right; omega
    · have : 0 < r.length := List.length_pos_iff.2 hr
      simp only [hr, ne_eq, not_false_eq_true, true_and, List.cons_ne_nil]
      constructor
      · rintro ((h | h) | h)
        · exact .inl h
        · right; subst h; omega
        · right; omega
      · rintro (h | h)
        · exact .inl (.inl h)
        · by_cases h1 : x = p / 16
          · exact .inl (.inr h1)
          · right; omega

/-- How many blocks a write makes. -/
theorem FileV.puts_len (F : FileV) (p : Int) (l : List Int) (h : F.ok) (h0 : 0 ≤ p) (h1 : p + l.length ≤ 1024) (hl : ∀ c ∈ l, 0 ≤ c ∧ c < 256) (hne : l ≠ []) :
    ((F.puts p l).keys.length : Int) = F.keys.length + F.lacks p (p + l.length) := by
  have hok := FileV.puts_ok l h h0 h1 hl
  have hpos : 0 < l.length := List.length_pos_iff.2 hne
  have hp : ((F.puts p l).keys).Perm (F.keys ++ (span (p / 16) ((p + l.length - 1) / 16)).filter (fun k => !decide (k ∈ F.keys))) := by
    rw [List.perm_ext_iff_of_nodup hok.2.2.1]
    · intro x
      rw [FileV.mem_puts]
      simp only [hne, ne_eq, not_false_eq_true, true_and, List.mem_append, List.mem_filter, mem_span, Bool.not_eq_true', decide_eq_false_iff_not]
      by_cases hx : x ∈ F.keys <;> simp [hx]
    · refine List.nodup_append.2 ⟨h.2.2.1, (span_nodup _ _).filter _, ?_⟩
      intro a ha b hb e
      simp only [List.mem_filter, Bool.not_eq_true', decide_eq_false_iff_not] at hb
      exact hb.2 (e ▸ ha)
  have := hp.length_eq
  unfold FileV.lacks
  rw [this, List.length_append]
  omega

/-- The calls of a pool: what they make of it, and what they answer. -/
def PoolV.file (V : PoolV) : PoolV := { V with made := V.made + 1, files := aset V.files (V.made + 1) FileV.empty }
def PoolV.drop (V : PoolV) (f : Int) : PoolV × Int :=
  match aget V.files f with
  | none => (V, 1)
  | some F => ({ V with left := V.left + F.keys.length, files := adel V.files f }, 0)
def PoolV.write (V : PoolV) (f p : Int) (l : List Int) : PoolV × Int :=
  match aget V.files f with
  | none => (V, 1)
  | some F =>
    if p < 0 then (V, 39) else if l = [] then (V, 0) else if 1024 < l.length ∨ 1024 - (l.length : Int) < p then (V, 42)
    else if V.left < F.lacks p (p + l.length) then (V, 43)
    else ({ V with left := V.left - F.lacks p (p + l.length), files := aset V.files f { F.puts p l with size := max F.size (p + l.length) } }, 0)
def FileV.read (F : FileV) (p n : Int) : List Int := (List.range (min n (F.size - p)).toNat).map fun (i : Nat) => F.byte (p + i)
def PoolV.read (V : PoolV) (f p n : Int) : List Int × Int :=
  match aget V.files f with
  | none => ([], 1)
  | some F => if p < 0 ∨ n < 0 then ([], 39) else if F.size ≤ p then ([], 0) else (F.read p n, 0)
def FileV.cut (F : FileV) (size : Int) : FileV :=
  { size := size, keys := F.keys.filter (fun k => decide (k * 16 < size)), byte := fun p => if p < size then F.byte p else 0 }
def PoolV.cut (V : PoolV) (f size : Int) : PoolV × Int :=
  match aget V.files f with
  | none => (V, 1)
  | some F => if size < 0 then (V, 39) else if 1024 < size then (V, 42)
    else ({ V with left := V.left + (F.keys.length - (F.cut size).keys.length), files := aset V.files f (F.cut size) }, 0)
def PoolV.size (V : PoolV) (f : Int) : Int := match aget V.files f with | none => 0 | some F => F.size
def PoolV.used (V : PoolV) (f : Int) : Int := match aget V.files f with | none => 0 | some F => F.keys.length

end Go.Proofs.YtnjfcedkfobbcaaGreat
