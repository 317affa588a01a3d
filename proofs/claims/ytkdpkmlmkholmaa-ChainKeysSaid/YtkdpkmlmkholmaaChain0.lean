/-
  A text's number, as both packages reckon it; chains in memory.
-/
import Derived.Test.YtkdpkmlmkholmaaLaws
import Derived.Test.YtkdpkmlmkholmaaProg
namespace Go.Proofs.Ytkdpkmlmkholmaa
open Go Go.RowKit
set_option linter.unusedSectionVars false
set_option linter.unusedSimpArgs false
set_option linter.unusedVariables false

def hashTo (s : ByteArray) : Nat → Int
  | 0 => 2166136261
  | j + 1 => if h : j < s.size then bits BinOp.xor IntKind.u32 (hashTo s j) ((s[j].toNat : Int) % 4294967296) * 16777619 % 4294967296 else hashTo s j

def hashOf (s : ByteArray) : Int := hashTo s s.size

theorem hashTo_lt (s : ByteArray) : ∀ j, 0 ≤ hashTo s j ∧ hashTo s j < 4294967296
  | 0 => by simp [hashTo]
  | j + 1 => by
    unfold hashTo
    split
    · omega
    · exact hashTo_lt s j

theorem hashTo_succ (s : ByteArray) (j : Nat) (h : j < s.size) : hashTo s (j + 1) = bits BinOp.xor IntKind.u32 (hashTo s j) ((s[j].toNat : Int) % 4294967296) * 16777619 % 4294967296 := by
  rw [hashTo, dif_pos h]

theorem hashOf_lt (s : ByteArray) : 0 ≤ hashOf s ∧ hashOf s < 4294967296 := hashTo_lt s s.size

theorem hash_c (s : ByteArray) (w : World) (hs : s.size ≤ 9223372036854775807) :
    Calls Try.prog 24 #[.string s] w fun r w' => r = .returned (.int .u32 (hashOf s)) ∧ w = w' := by
  go_enter Try.func24, Try.ntmps24
  go_wp2
  go_loop [3, 7] (fun h i => ∃ j : Nat, j ≤ s.size ∧ i = .int .i64 j ∧ h = .int .u32 (hashTo s j)) (fun _ i => s.size - (intOf i).toNat)
  case atStart => exact ⟨0, by omega, rfl, rfl⟩
  case round =>
    obtain ⟨j, hj, rfl, rfl⟩ := hrel
    have hb := hashTo_lt s j
    by_cases hlt : j < s.size
    · have A := Lib.hid (hashTo_succ s j hlt)
      go_wp2
      go_round
      case rel => exact ⟨j + 1, by omega, by go_num, by rw [A.out]⟩
      case measure => simp [intOf]; omega
    · have e : j = s.size := by omega
      subst e
      go_wp2
      go_ret
      exact ⟨rfl, rfl⟩

theorem ref_hash_c (s : ByteArray) (w : World) (hs : s.size ≤ 9223372036854775807) :
    Calls Try.prog 14 #[.string s] w fun r w' => r = .returned (.int .u32 (hashOf s)) ∧ w = w' := by
  go_enter Try.func14, Try.ntmps14
  go_wp2
  go_loop [3, 4] (fun h i => ∃ j : Nat, j ≤ s.size ∧ i = .int .i64 j ∧ h = .int .u32 (hashTo s j)) (fun _ i => s.size - (intOf i).toNat)
  case atStart => exact ⟨0, by omega, rfl, rfl⟩
  case round =>
    obtain ⟨j, hj, rfl, rfl⟩ := hrel
    have hb := hashTo_lt s j
    by_cases hlt : j < s.size
    · have A := Lib.hid (hashTo_succ s j hlt)
      go_wp2
      go_round
      case rel => exact ⟨j + 1, by omega, by go_num, by rw [A.out]⟩
      case measure => simp [intOf]; omega
    · have e : j = s.size := by omega
      subst e
      go_wp2
      go_ret
      exact ⟨rfl, rfl⟩

/-- A link, or none. -/
def pnt (o : Option Nat) : Value := .pointer (o.map fun b => ⟨b, 0, none⟩)

/-- A key, its number. -/
abbrev Pair := ByteArray × Int

/-- From o on these links stand behind one another: their places, keys, numbers. -/
def Seg (w : World) : Option Nat → List (Nat × Pair) → Prop
  | o, [] => o = none
  | o, x :: r => o = some x.1 ∧ ∃ o', w.heap[x.1]? = some (.cells #[.string x.2.1, .int .i64 x.2.2, pnt o'] 66 (0, 0)) ∧ Seg w o' r

theorem Seg.keep {w w' : World} {S : Nat → Prop} (K : Keep w w' S) : ∀ {o : Option Nat} {l : List (Nat × Pair)}, Seg w o l → (∀ x ∈ l, ¬ S x.1) → Seg w' o l
  | _, [], h, _ => h
  | _, x :: r, ⟨h1, o', h2, h3⟩, hs => ⟨h1, o', K.get h2 (hs x (by simp)), Seg.keep K h3 (fun y hy => hs y (by simp [hy]))⟩

theorem Seg.lt {w : World} : ∀ {o : Option Nat} {l : List (Nat × Pair)}, Seg w o l → ∀ x ∈ l, x.1 < w.heap.size
  | _, [], _, _, hx => by simp at hx
  | _, y :: r, ⟨_, _, h2, h3⟩, x, hx => by
    rcases List.mem_cons.1 hx with rfl | hx
    · exact (Array.getElem?_eq_some_iff.1 h2).1
    · exact Seg.lt h3 x hx

theorem Seg.at {w : World} : ∀ {o : Option Nat} {l : List (Nat × Pair)}, Seg w o l → ∀ x ∈ l, ∃ o', w.heap[x.1]? = some (.cells #[.string x.2.1, .int .i64 x.2.2, pnt o'] 66 (0, 0))
  | _, [], _, _, hx => by simp at hx
  | _, y :: r, ⟨_, o', h2, h3⟩, x, hx => by
    rcases List.mem_cons.1 hx with rfl | hx
    · exact ⟨o', h2⟩
    · exact Seg.at h3 x hx

theorem pnt_inj {a b : Option Nat} (h : pnt a = pnt b) : a = b := by
  cases a <;> cases b <;> simp_all [pnt]

/-- What stands behind a place is one. -/
theorem Seg.det {w : World} : ∀ {o : Option Nat} {l l' : List (Nat × Pair)}, Seg w o l → Seg w o l' → l = l'
  | _, [], [], _, _ => rfl
  | _, [], y :: r, h, ⟨h1, _⟩ => by simp [Seg] at h; simp [h] at h1
  | _, x :: r, [], ⟨h1, _⟩, h => by simp [Seg] at h; simp [h] at h1
  | _, x :: r, y :: t, ⟨h1, o1, h2, h3⟩, ⟨k1, o2, k2, k3⟩ => by
    have e : x.1 = y.1 := by rw [h1] at k1; exact Option.some.inj k1
    rw [← e, h2] at k2
    simp only [Option.some.injEq, Obj.cells.injEq, Array.mk.injEq, List.cons.injEq, and_true, Value.string.injEq, Value.int.injEq, true_and] at k2
    obtain ⟨e1, e2, e3⟩ := k2
    have := pnt_inj e3
    subst this
    have ht := Seg.det h3 k3
    subst ht
    obtain ⟨a, b, c⟩ := x
    obtain ⟨a', b', c'⟩ := y
    simp at e e1 e2
    simp [e, e1, e2]

/-- A link's block does not stand behind itself. -/
theorem Seg.nodup {w : World} : ∀ {l : List (Nat × Pair)} {o : Option Nat}, Seg w o l → (l.map Prod.fst).Nodup := by
  have key : ∀ (n : Nat) (l : List (Nat × Pair)) (o : Option Nat), l.length = n → Seg w o l → ∀ (x : Nat × Pair), x ∈ l → ∃ p r, l = p ++ x :: r ∧ Seg w (some x.1) (x :: r) := by
    intro n
    induction n with
    | zero => intro l o hn h x hx; have := List.length_eq_zero_iff.1 hn; subst this; simp at hx
    | succ n ih =>
      intro l o hn h x hx
      cases l with
      | nil => simp at hn
      | cons y r =>
        rcases List.mem_cons.1 hx with rfl | hx
        · exact ⟨[], r, rfl, by rw [← h.1]; exact h⟩
        · obtain ⟨_, o', _, h3⟩ := h
          obtain ⟨p, t, rfl, ht⟩ := ih r o' (by simpa using hn) h3 x hx
          exact ⟨y :: p, t, rfl, ht⟩
  intro l
  induction l with
  | nil => intro o _; simp
  | cons x r ih =>
    intro o h
    have h' := h
    obtain ⟨h1, o', h2, h3⟩ := h
    simp only [List.map_cons, List.nodup_cons]
    refine ⟨fun hm => ?_, ih h3⟩
    obtain ⟨y, hy, e⟩ := List.mem_map.1 hm
    obtain ⟨p, t, hr, ht⟩ := key _ r o' rfl h3 y hy
    rw [e, ← h1] at ht
    have hl := congrArg List.length (Seg.det h' ht)
    rw [hr] at hl
    simp only [List.length_cons, List.length_append] at hl
    omega

end Go.Proofs.Ytkdpkmlmkholmaa
