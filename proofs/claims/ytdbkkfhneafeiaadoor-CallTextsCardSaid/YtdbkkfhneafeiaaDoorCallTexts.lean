/-
  CallTexts: the walk.
-/
import Derived.Test.YtdbkkfhneafeiaaDoorCKnown
import Derived.Deep.Cut
import Derived.Below
namespace Go.Proofs.YtdbkkfhneafeiaaDoor
open Go Go.RowKit Go.Shelf
set_option linter.unusedSectionVars false
set_option linter.unusedSimpArgs false
set_option linter.unusedVariables false
set_option maxRecDepth 100000
attribute [local go_sem] Oper.semAt_some

/-! ### what is told is told unlike -/

theorem digC_inj : ∀ a b : Fin 16, digC a.val = digC b.val → a = b := by decide +kernel
theorem digC_sign : ∀ a : Fin 16, 32 ≤ (digC a.val).toNat ∧ (digC a.val).toNat ≤ 126 := by decide +kernel

theorem shown1_ne (c : UInt8) : shown1 c ≠ [] := by unfold shown1; split <;> simp

theorem shownP_inj : ∀ {a b : Bs}, shownP a = shownP b → a = b
  | [], [], _ => rfl
  | [], d :: s, h => by
    exfalso
    unfold shownP at h
    rw [List.flatMap_nil, List.flatMap_cons] at h
    have := shown1_ne d
    cases hh : shown1 d with
    | nil => exact this hh
    | cons x r => rw [hh] at h; simp at h
  | c :: r, [], h => by
    exfalso
    unfold shownP at h
    rw [List.flatMap_nil, List.flatMap_cons] at h
    have := shown1_ne c
    cases hh : shown1 c with
    | nil => exact this hh
    | cons x r => rw [hh] at h; simp at h
  | c :: r, d :: s, h => by
    have key : c = d ∧ shownP r = shownP s := by
      unfold shownP at h
      rw [List.flatMap_cons, List.flatMap_cons] at h
      by_cases hc : 32 < c.toNat ∧ c.toNat < 127 ∧ c.toNat ≠ 37
      · by_cases hd : 32 < d.toNat ∧ d.toNat < 127 ∧ d.toNat ≠ 37
        · rw [shown1, if_pos hc, shown1, if_pos hd] at h
          simp only [List.cons_append, List.nil_append, List.cons.injEq] at h
          exact h
        · rw [shown1, if_pos hc, shown1, if_neg hd] at h
          simp only [List.cons_append, List.nil_append, List.cons.injEq] at h
          exact absurd (by rw [h.1]; rfl) hc.2.2
      · by_cases hd : 32 < d.toNat ∧ d.toNat < 127 ∧ d.toNat ≠ 37
        · rw [shown1, if_neg hc, shown1, if_pos hd] at h
          simp only [List.cons_append, List.nil_append, List.cons.injEq] at h
          exact absurd (by rw [← h.1]; rfl) hd.2.2
        · rw [shown1, if_neg hc, shown1, if_neg hd] at h
          simp only [List.cons_append, List.nil_append, List.cons.injEq, true_and] at h
          have b1 := c.toNat_lt
          have b2 := d.toNat_lt
          have e1 := digC_inj ⟨c.toNat / 16, by omega⟩ ⟨d.toNat / 16, by omega⟩ h.1
          have e2 := digC_inj ⟨c.toNat % 16, by omega⟩ ⟨d.toNat % 16, by omega⟩ h.2.1
          simp only [Fin.mk.injEq] at e1 e2
          exact ⟨UInt8.toNat_inj.1 (by omega), h.2.2⟩
    rw [key.1, shownP_inj key.2]

theorem shownP_sign {s : Bs} {c : UInt8} (h : c ∈ shownP s) : 32 ≤ c.toNat ∧ c.toNat ≤ 126 := by
  unfold shownP at h
  obtain ⟨d, _, hd⟩ := List.mem_flatMap.1 h
  unfold shown1 at hd
  split at hd
  · rename_i hc
    simp only [List.mem_singleton] at hd
    subst hd
    omega
  · have b := d.toNat_lt
    simp only [List.mem_cons, List.not_mem_nil, or_false] at hd
    rcases hd with rfl | rfl | rfl
    · decide
    · exact digC_sign ⟨d.toNat / 16, by omega⟩
    · exact digC_sign ⟨d.toNat % 16, by omega⟩

def mkdirC (l : Bs) : CallV := ⟨1, strB l, ⟨#[]⟩, 0, 0, 0, 0, 0, []⟩

theorem text_mkdir (l : Bs) : textP (mkdirC l) = if l = [] then [109, 107, 100, 105, 114] else [109, 107, 100, 105, 114, 32] ++ shownP l := by
  have h : textP (mkdirC l) = Lib.join (lineText [[109, 107, 100, 105, 114]] [] l) [32] := rfl
  rw [h]
  unfold lineText
  split
  · rw [Lib.join_one]
  · show Lib.join ([109, 107, 100, 105, 114] :: [[] ++ shownP l]) [32] = _
    rw [Lib.join_cons]
    simp [Lib.joinTail]

theorem text_inj {a b : Bs} (h : textP (mkdirC a) = textP (mkdirC b)) : a = b := by
  rw [text_mkdir, text_mkdir] at h
  by_cases ha : a = []
  · by_cases hb : b = []
    · rw [ha, hb]
    · rw [if_pos ha, if_neg hb] at h
      have := congrArg List.length h
      simp at this
  · by_cases hb : b = []
    · rw [if_neg ha, if_pos hb] at h
      have := congrArg List.length h
      simp at this
    · rw [if_neg ha, if_neg hb] at h
      exact shownP_inj (List.append_cancel_left h)

theorem text_sign {l : Bs} {c : UInt8} (h : c ∈ textP (mkdirC l)) : 32 ≤ c.toNat ∧ c.toNat ≤ 126 := by
  rw [text_mkdir] at h
  split at h
  · exact (show ∀ c ∈ ([109, 107, 100, 105, 114] : Bs), 32 ≤ c.toNat ∧ c.toNat ≤ 126 by decide) c h
  · rcases List.mem_append.1 h with h | h
    · exact (show ∀ c ∈ ([109, 107, 100, 105, 114, 32] : Bs), 32 ≤ c.toNat ∧ c.toNat ≤ 126 by decide) c h
    · exact shownP_sign h

theorem text_len (l : Bs) : (textP (mkdirC l)).length ≤ 6 + 3 * l.length := by
  rw [text_mkdir]
  have := shownP_len l
  split
  · simp; omega
  · simp; omega

def cutS (n : Nat) (x : ByteArray) : ByteArray := if n < x.size then x.extract 0 n else x

theorem cutS_list (n : Nat) (x : ByteArray) : ∃ l : Bs, cutS n x = strB l ∧ l.length ≤ n := by
  refine ⟨(cutS n x).data.toList, rfl, ?_⟩
  have e : (cutS n x).data.toList.length = (cutS n x).size := by simp
  rw [e]
  unfold cutS
  split
  · rw [ByteArray.size_extract]; omega
  · omega

theorem strB_inj {l m : Bs} : strB l = strB m ↔ l = m := by
  constructor
  · intro h
    have h2 := congrArg (fun x : ByteArray => x.data.toList) h
    simpa [strB] using h2
  · rintro rfl; rfl

set_option maxHeartbeats 4000000 in
theorem texts_walk (x y : ByteArray) (w : World) (ht : Tabs w) :
    Calls Tryd.prog 4 #[.string x, .string y] w fun r w' => r = .returned (.bool true) ∧ Keep w w' (fun _ => False) := by
  obtain ⟨la, hla, lla⟩ := cutS_list 300 x
  obtain ⟨lb, hlb, llb⟩ := cutS_list 300 y
  have HA := Lib.hid hla
  have HB := Lib.hid hlb
  have HT := Lib.hid ht
  clear hla hlb ht
  go_enter Tryd.func4, Tryd.ntmps4
  go_upto_if 10 with (fail)
  go_cut [0] from 8 (fun s wc => s = .string (strB la) ∧ w = wc)
  case first =>
    by_cases h : 300 < x.size
    · have g1 : (300 : Int) < (x.size : Int) := by omega
      have g2 : (300 : Int) ≤ (x.size : Int) := by omega
      have g3 : 300 ≤ x.size := by omega
      go_wp2
      go_meet
      case rel => exact ⟨by rw [← HA.out, cutS, if_pos h], rfl⟩
    · have g1 : ¬ (300 : Int) < (x.size : Int) := by omega
      go_wp2
      go_meet
      case rel => exact ⟨by rw [← HA.out, cutS, if_neg h], rfl⟩
  case rest =>
    obtain ⟨rfl, rfl⟩ := hcut
    go_upto_if 15 with (fail)
    go_cut [1] from 8 (fun s wc => s = .string (strB lb) ∧ w = wc)
    case first =>
      by_cases h : 300 < y.size
      · have g1 : (300 : Int) < (y.size : Int) := by omega
        have g2 : (300 : Int) ≤ (y.size : Int) := by omega
        have g3 : 300 ≤ y.size := by omega
        go_wp2
        go_meet
        case rel => exact ⟨by rw [← HB.out, cutS, if_pos h], rfl⟩
      · have g1 : ¬ (300 : Int) < (y.size : Int) := by omega
        go_wp2
        go_meet
        case rel => exact ⟨by rw [← HB.out, cutS, if_neg h], rfl⟩
    case rest =>
      obtain ⟨rfl, rfl⟩ := hcut
      clear HA HB
      have tx : ∀ (l : Bs), l.length ≤ 300 → ∀ U, Tabs U → Calls Tryd.prog 17 #[.agg #[.int .i64 1, .string (strB l), .string ⟨#[]⟩, .int .i64 0, .int .i64 0, .int .i64 0, .int .i64 0, .int .i64 0, .slice none 0 0]] U fun r w' => r = .returned (.string (strB (textP (mkdirC l)))) ∧ Keep U w' (fun _ => False) := fun l hl U t =>
        text_c (mkdirC l) none 0 U t (.inl (BSl.nil U)) (by intro z; obtain ⟨z, hz⟩ := z; rcases (show z = 0 ∨ z = 1 ∨ z = 2 ∨ z = 3 ∨ z = 4 by omega) with rfl | rfl | rfl | rfl | rfl <;> exact ⟨by show _ ≤ (0 : Int); omega, by show (0 : Int) ≤ _; omega⟩) ⟨by show l.length ≤ _; omega, by show 0 ≤ _; omega, by show 0 ≤ _; omega⟩
      have ta := tx la lla
      have tb := tx lb llb
      clear tx
      obtain ⟨n, hn⟩ : ∃ n, n = (textP (mkdirC la)).length := ⟨_, rfl⟩
      have hn9 : n ≤ 1000 := by have := text_len la; omega
      obtain ⟨X, hX⟩ : ∃ X, X = strB (textP (mkdirC la)) := ⟨_, rfl⟩
      obtain ⟨Y, hY⟩ : ∃ Y, Y = strB (textP (mkdirC lb)) := ⟨_, rfl⟩
      obtain ⟨A, hA⟩ : ∃ A, A = strB la := ⟨_, rfl⟩
      obtain ⟨B, hB⟩ : ∃ B, B = strB lb := ⟨_, rfl⟩
      have hXs : X.size = n := by rw [hX, strB_size, hn]
      have heq : (X.toList == Y.toList) = (A.toList == B.toList) := by
        rw [hX, hY, hA, hB, strB_toList, strB_toList, strB_toList, strB_toList]
        by_cases h : la = lb
        · subst h; simp
        · have h2 : textP (mkdirC la) ≠ textP (mkdirC lb) := fun e => h (text_inj e)
          rw [beq_eq_false_iff_ne.2 h, beq_eq_false_iff_ne.2 h2]
      rw [← hX, ← hA] at ta
      rw [← hY, ← hB] at tb
      rw [← hA, ← hB]
      have HX := Lib.hid (And.intro hX (And.intro hn heq))
      clear hX hY hA hB hn heq lla llb
      go_wp2_with (first
        | (go_at_call 17
           with_reducible refine (ta _ HT.out).mono ?_
           rintro e w1 ⟨rfl, hk1⟩
           have K1 := Lib.hid hk1
           clear hk1 ta)
        | (go_at_call 17
           with_reducible refine (tb _ (HT.out.keep K1.out)).mono ?_
           rintro e w2 ⟨rfl, hk2⟩
           have K2 := Lib.hid (K1.out.trans hk2 (fun _ q => q.elim))
           clear hk2 tb))
      go_loopg [7] n (fun g s7 wr => ∃ k : Nat, s7 = .int .i64 k ∧ k + g = n ∧ wr = w2)
      case atStart => exact ⟨0, rfl, by omega, rfl⟩
      case round =>
        obtain ⟨k, rfl, hk, rfl⟩ := hrel
        by_cases hlk : k < n
        · have g3 : (k : Int) < (n : Int) := by omega
          have hlt : k < X.size := by omega
          obtain ⟨u, hu, hc⟩ := byte_atS HX.out.1 hlt
          have hs := text_sign (List.mem_of_getElem? hu)
          obtain ⟨c, hcc⟩ : ∃ c, c = u.toNat := ⟨_, rfl⟩
          rw [← hcc] at hc hs
          have c1 : ¬ (c : Int) < 32 := by omega
          have c2 : ¬ (126 : Int) < (c : Int) := by omega
          clear hu hcc hs
          go_wp2
          go_roundg (n - (k + 1))
          case measure => omega
          case rel => exact ⟨k + 1, rfl, by omega, rfl⟩
        · have g3 : ¬ (k : Int) < (n : Int) := by omega
          have heq := HX.out.2.2
          obtain ⟨e1, he1⟩ : ∃ e1 : Bool, e1 = (X.toList == Y.toList) := ⟨_, rfl⟩
          have he2 : (A.toList == B.toList) = e1 := by rw [he1, heq]
          have he3 : (X.toList == Y.toList) = e1 := he1.symm
          clear he1 heq
          go_wp2_with (
            go_at_call 16
            refine (known_c _ (HT.out.keep K2.out)).mono ?_
            rintro e w9 ⟨rfl, hk9⟩
            have K9 := Lib.hid hk9
            clear hk9)
          go_ret
          exact ⟨rfl, K2.out.trans K9.out (fun _ q => q.elim)⟩

theorem texts_below {p q : Prop} (x y : ByteArray) (w : World) (ht : Tabs w) (_ : p) (_ : q) : Calls Tryd.prog 4 #[.string x, .string y] w fun r w' => r = .returned (.bool true) ∧ Below w.heap.size w w' :=
  (texts_walk x y w ht).mono fun _ _ h => ⟨h.1, h.2.below (Nat.le_refl _) (fun _ q => q.elim)⟩

end Go.Proofs.YtdbkkfhneafeiaaDoor
