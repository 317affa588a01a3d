/-
  The document's words of a call: hex, wide, digits, number, path.
-/
import Derived.Test.YtdbkkfhneafeiaaDoorShown
import Derived.Test.YtdbkkfhneafeiaaDoorLine
import Derived.BigQuiet
import Derived.Lib.ItoaLen
namespace Go.Proofs.YtdbkkfhneafeiaaDoor
open Go Go.RowKit Go.Shelf
set_option linter.unusedSectionVars false
set_option linter.unusedSimpArgs false
set_option linter.unusedVariables false
set_option maxRecDepth 100000
attribute [local go_sem] Oper.semAt_some

theorem extract_strB (l : Bs) (a b : Nat) : (strB l).extract a b = strB ((l.drop a).take (b - a)) := by
  apply ByteArray.ext
  rw [ByteArray.data_extract]
  show (l.toArray).extract a b = ((l.drop a).take (b - a)).toArray
  apply Array.ext'
  simp

theorem hexT : ∀ p : Fin 16, digT.extract p.val (p.val + 1) = strB [digC p.val] := by decide +kernel

theorem decT : ∀ p : Fin 10, (⟨#[48, 49, 50, 51, 52, 53, 54, 55, 56, 57]⟩ : ByteArray).extract p.val (p.val + 1) = strB [UInt8.ofNat (48 + p.val)] := by decide +kernel

theorem rhex_c (n : Nat) (hn : n < 16) (w : World) :
    Calls Tryd.prog 51 #[.int .i64 n] w fun e w' => e = .returned (.string (strB [digC n])) ∧ w' = w := by
  have HD := Lib.hid (hexT ⟨n, hn⟩)
  have g1 : (n : Int) + 1 ≤ 16 := by omega
  have g2 : n + 1 ≤ 16 := by omega
  go_enter Tryd.func51, Tryd.ntmps51
  go_wp2
  go_ret
  exact ⟨by rw [← HD.out]; rfl, rfl⟩

/-- What stands behind the digits that are not there yet. -/
def WideAt (n k : Nat) (s : Bs) (g : Nat) : Prop := k ≤ n ∧ ((s = [] ∧ k = n ∧ g = n + 1) ∨ (s ≠ [] ∧ g = k ∧ ((k = 0 ∧ s = Lib.decDigits n) ∨ (0 < k ∧ Lib.decDigits k ++ s = Lib.decDigits n))))

theorem WideAt.step {n k : Nat} {s : Bs} {g : Nat} (h : WideAt n k s g) (hs : s = [] ∨ 0 < k) : WideAt n (k / 10) ([UInt8.ofNat (48 + k % 10)] ++ s) (k / 10) ∧ k / 10 < g := by
  obtain ⟨hkn, h⟩ := h
  have hd := Nat.div_le_self k 10
  rcases h with ⟨h1, h2, h3⟩ | ⟨h1, h2, h4⟩
  · subst h1 h3
    refine ⟨⟨by omega, .inr ⟨by simp, rfl, ?_⟩⟩, by omega⟩
    rw [← h2]
    by_cases h : k < 10
    · left
      refine ⟨by omega, ?_⟩
      rw [Lib.decDigits_one h, Nat.mod_eq_of_lt h]
      rfl
    · right
      refine ⟨by omega, ?_⟩
      rw [Lib.decDigits.eq_def k, dif_neg h]
      simp
  · have hk : 0 < k := by
      rcases hs with q | q
      · exact absurd q h1
      · exact q
    subst h2
    rcases h4 with ⟨rfl, _⟩ | ⟨_, h4⟩
    · omega
    · refine ⟨⟨by omega, .inr ⟨by simp, rfl, ?_⟩⟩, by omega⟩
      by_cases h : g < 10
      · left
        refine ⟨by omega, ?_⟩
        rw [← h4, Lib.decDigits_one h, Nat.mod_eq_of_lt h]
      · right
        refine ⟨by omega, ?_⟩
        rw [← h4, Lib.decDigits.eq_def g, dif_neg h]
        simp

theorem WideAt.fin {n k : Nat} {s : Bs} {g : Nat} (h : WideAt n k s g) (hs : ¬ (s = [] ∨ 0 < k)) : s = Lib.decDigits n := by
  rcases h.2 with ⟨h1, _⟩ | ⟨_, _, ⟨_, h⟩ | ⟨h, _⟩⟩
  · exact absurd (.inl h1) hs
  · exact h
  · exact absurd (.inr h) hs

theorem WideAt.small {n k : Nat} {s : Bs} {g : Nat} (h : WideAt n k s g) (hn : n ≤ 18446744073709551615) : s.length ≤ 21 := by
  have hl := Lib.nDigits_le20 n (by omega)
  rw [← Lib.decDigits_length] at hl
  rcases h.2 with ⟨rfl, _, _⟩ | ⟨_, _, ⟨_, rfl⟩ | ⟨h, h4⟩⟩
  · simp
  · omega
  · rw [← h4, List.length_append] at hl; omega

set_option maxHeartbeats 2000000 in
theorem rwide_c (n : Nat) (hn : n ≤ 18446744073709551615) (w : World) :
    Calls Tryd.prog 52 #[.int .u64 n] w fun e w' => e = .returned (.string (strB (Lib.decDigits n))) ∧ w' = w := by
  go_enter Tryd.func52, Tryd.ntmps52
  go_wp2
  go_loopg [0, 3] (n + 1) (fun g s0 s3 wr => ∃ (k : Nat) (s : Bs), s0 = .int .u64 k ∧ s3 = .string (strB s) ∧ WideAt n k s g ∧ wr = w)
  case atStart => exact ⟨n, [], rfl, rfl, ⟨Nat.le_refl _, .inl ⟨rfl, rfl, rfl⟩⟩, rfl⟩
  case round =>
    obtain ⟨k, s, rfl, rfl, hw, rfl⟩ := hrel
    have hs1 := hw.small hn
    have hk1 := hw.1
    obtain ⟨T, hT⟩ : ∃ T, T = strB s := ⟨_, rfl⟩
    have hTs : T.size ≤ 21 := by rw [hT, strB_size]; exact hs1
    rw [← hT]
    have HH := Lib.hid (And.intro hw hT)
    by_cases hgo : s = [] ∨ 0 < k
    · have HG := Lib.hid hgo
      obtain ⟨d, hd⟩ : ∃ d, d = k % 10 := ⟨_, rfl⟩
      have hd10 : d < 10 := by omega
      have HD := Lib.hid (And.intro hd (decT ⟨d, hd10⟩))
      have d1 : (k : Int) % 10 = (d : Int) := by omega
      have d2 : (d : Int) + 1 ≤ 10 := by omega
      have d3 : d + 1 ≤ 10 := by omega
      have d5 : ¬ 9223372036854775807 < 1 + T.size := by omega
      clear hd
      by_cases hk0 : 0 < k
      · have g1 : (0 : Int) < (k : Int) := by omega
        clear hgo hT hw
        go_wp2
        go_roundg (k / 10)
        case measure => exact (HH.out.1.step HG.out).2
        case rel => exact ⟨k / 10, [UInt8.ofNat (48 + k % 10)] ++ s, rfl, by rw [← HD.out.1, ← strB_append, ← HD.out.2, ← HH.out.2], (HH.out.1.step HG.out).1, rfl⟩
      · have hs0 : s = [] := by
          rcases hgo with q | q
          · exact q
          · exact absurd q hk0
        have e1 : T.toList.isEmpty = true := by rw [hT, strB_toList, hs0]; rfl
        have e2 : T.toList = [] := by rw [hT, strB_toList, hs0]
        clear hs0
        have g1 : ¬ (0 : Int) < (k : Int) := by omega
        clear hgo hT hw
        go_wp2
        go_roundg (k / 10)
        case measure => exact (HH.out.1.step HG.out).2
        case rel => exact ⟨k / 10, [UInt8.ofNat (48 + k % 10)] ++ s, rfl, by rw [← HD.out.1, ← strB_append, ← HD.out.2, ← HH.out.2], (HH.out.1.step HG.out).1, rfl⟩
    · have g1 : ¬ (0 : Int) < (k : Int) := by omega
      have e1 : T.toList.isEmpty = false := by rw [hT, strB_toList]; simpa using fun q => hgo (.inl q)
      have HF := Lib.hid (hw.fin hgo)
      clear hgo hT hw
      go_wp2
      go_ret
      exact ⟨by rw [HH.out.2, HF.out]; rfl, rfl⟩

set_option maxHeartbeats 1000000 in
theorem rdigits_c (z : Int) (h1 : -9223372036854775808 ≤ z) (h2 : z ≤ 9223372036854775807) (w : World) :
    Calls Tryd.prog 43 #[.int .i64 z] w fun e w' => e = .returned (.string (strB (Lib.itoa z))) ∧ w' = w := by
  obtain ⟨u, hu⟩ : ∃ u : Nat, u = z.natAbs := ⟨_, rfl⟩
  have hr : ∀ x : Int, x = (u : Int) → ∀ U, Calls Tryd.prog 52 #[.int .u64 x] U fun e w' => e = .returned (.string (strB (Lib.decDigits u))) ∧ w' = U := fun x hx U => by
    subst hx
    exact rwide_c u (by omega) U
  obtain ⟨T, hT⟩ : ∃ T, T = strB (Lib.decDigits u) := ⟨_, rfl⟩
  have hTs : T.size ≤ 21 := by
    have := Lib.nDigits_le20 u (by omega)
    rw [hT, strB_size, Lib.decDigits_length]; omega
  rw [← hT] at hr
  by_cases hz : z < 0
  · have HT := Lib.hid (show strB (Lib.itoa z) = ⟨#[45]⟩ ++ T by
      rw [show z = -(u : Int) by omega, Lib.itoa_neg u (by omega), hT]; exact (strB_append [45] _).symm)
    have g5 : ¬ 9223372036854775807 < 1 + T.size := by omega
    have HU := Lib.hid hu
    clear hT hu
    go_enter Tryd.func43, Tryd.ntmps43
    go_wp2_with (
      go_at_call 52
      refine (hr _ (by have := HU.out; omega) _).mono ?_
      rintro e w1 ⟨rfl, rfl⟩)
    go_ret
    exact ⟨by rw [HT.out]; rfl, rfl⟩
  · have HT := Lib.hid (show strB (Lib.itoa z) = T by
      rw [show z = (u : Int) by omega, Lib.itoa_nonneg u, hT])
    have HU := Lib.hid hu
    clear hT hu
    go_enter Tryd.func43, Tryd.ntmps43
    go_wp2_with (
      go_at_call 52
      refine (hr _ (by have := HU.out; omega) _).mono ?_
      rintro e w1 ⟨rfl, rfl⟩)
    go_ret
    exact ⟨by rw [HT.out]; rfl, rfl⟩

/-- What is told of a number: a blank, its name. -/
def numR (name : Bs) (z : Int) : Bs := if z = 0 then [] else [32] ++ name ++ [61] ++ Lib.itoa z

theorem rnumber_c (name : Bs) (hn : name.length ≤ 1000) (z : Int) (h1 : -9223372036854775808 ≤ z) (h2 : z ≤ 9223372036854775807) (w : World) :
    Calls Tryd.prog 42 #[.string (strB name), .int .i64 z] w fun e w' => e = .returned (.string (strB (numR name z))) ∧ w' = w := by
  by_cases hz : z = 0
  · have HN := Lib.hid (show numR name z = [] by unfold numR; rw [if_pos hz])
    go_enter Tryd.func42, Tryd.ntmps42
    go_wp2
    go_ret
    exact ⟨by rw [HN.out]; rfl, rfl⟩
  · have hr := rdigits_c z h1 h2
    obtain ⟨T, hT⟩ : ∃ T, T = strB (Lib.itoa z) := ⟨_, rfl⟩
    have hTs : T.size ≤ 1000 := by rw [hT, strB_size]; have := itoa_len z h1 h2; omega
    obtain ⟨N, hN⟩ : ∃ N, N = strB name := ⟨_, rfl⟩
    have hNs : N.size ≤ 1000 := by rw [hN, strB_size]; exact hn
    have HN := Lib.hid (show strB (numR name z) = ⟨#[32]⟩ ++ N ++ ⟨#[61]⟩ ++ T by
      unfold numR
      rw [if_neg hz, hT, hN, ← strB_append, ← strB_append, ← strB_append]
      rfl)
    rw [← hT] at hr
    rw [← hN]
    clear hT hN
    have g1 : ¬ 9223372036854775807 < 1 + N.size := by omega
    have g2 : ¬ 9223372036854775807 < 1 + N.size + 1 := by omega
    have g3 : ¬ 9223372036854775807 < 1 + N.size + 1 + T.size := by omega
    go_enter Tryd.func42, Tryd.ntmps42
    go_wp2_with (
      go_at_call 43
      refine (hr _).mono ?_
      rintro e w1 ⟨rfl, rfl⟩)
    go_ret
    exact ⟨by rw [HN.out]; rfl, rfl⟩

set_option maxHeartbeats 2000000 in
theorem rpath_c (s : Bs) (w : World) (hs : s.length ≤ 1000000000) :
    Calls Tryd.prog 41 #[.string (strB s)] w fun e w' => e = .returned (.string (strB (shownP s))) ∧ Keep w w' (fun _ => False) := by
  obtain ⟨n, hn⟩ : ∃ n, n = s.length := ⟨_, rfl⟩
  obtain ⟨X, hX⟩ : ∃ X, X = strB s := ⟨_, rfl⟩
  have hXs : X.size = n := by rw [hX, strB_size, hn]
  rw [← hX]
  have HX := Lib.hid (And.intro hX hn)
  rw [← hn] at hs
  clear hX hn
  go_enter Tryd.func41, Tryd.ntmps41
  go_wp2
  go_loopg [3, 4] n (fun g s3 s4 wr => ∃ k : Nat, s4 = .int .i64 k ∧ k + g = n ∧ s3 = .string (strB (shownP (s.take k))) ∧ Keep w wr (fun _ => False))
  case atStart => exact ⟨0, rfl, by omega, rfl, Keep.refl _ _⟩
  case round =>
    obtain ⟨k, rfl, hk, rfl, hkp⟩ := hrel
    have HK := Lib.hid hkp
    clear hkp
    obtain ⟨T, hT⟩ : ∃ T, T = strB (shownP (s.take k)) := ⟨_, rfl⟩
    have hTs : T.size ≤ 3000000000 := by
      have h := shownP_len (s.take k)
      rw [List.length_take] at h
      have := HX.out.2
      rw [hT, strB_size]
      omega
    rw [← hT]
    have HT := Lib.hid hT
    clear hT
    by_cases hlk : k < n
    · have g3 : (k : Int) < (n : Int) := by omega
      have hlt : k < X.size := by omega
      obtain ⟨u, hu, hc⟩ := byte_atS HX.out.1 hlt
      have HF := Lib.hid (shownP_snoc s k hu)
      obtain ⟨c, hcc⟩ : ∃ c, c = u.toNat := ⟨_, rfl⟩
      have c256 : c < 256 := by rw [hcc]; exact u.toNat_lt
      rw [← hcc] at hc
      have HC := Lib.hid hcc
      have HE := Lib.hid (show X.extract k (k + 1) = strB [u] by
        rw [HX.out.1, extract_strB, show k + 1 - k = 1 by omega, List.take_one, List.head?_drop, hu]; rfl)
      have k1 : k + 1 ≤ X.size := by omega
      have k2 : (k : Int) + 1 ≤ (n : Int) := by omega
      clear hcc hu
      by_cases hp : 32 < c ∧ c < 127 ∧ ¬ c = 37
      · obtain ⟨h1, h2, h3⟩ := hp
        have b1 : (33 : Int) ≤ (c : Int) := by omega
        have b2 : (c : Int) ≤ 126 := by omega
        have b3 : ((c : Int) != 37) = true := by simp; omega
        have HS1 := Lib.hid (show shown1 u = [u] by unfold shown1; rw [if_pos (by rw [← HC.out]; exact ⟨h1, h2, h3⟩)])
        have hes : (X.extract k (k + 1)).size = 1 := by rw [HE.out]; rfl
        have g5 : ¬ 9223372036854775807 < T.size + (X.extract k (k + 1)).size := by omega
        go_wp2
        go_roundg (n - (k + 1))
        case measure => omega
        case rel => exact ⟨k + 1, rfl, by omega, by rw [HF.out, HS1.out, ← strB_append, ← HT.out, ← HE.out], HK.out⟩
      · have HS1 := Lib.hid (show shown1 u = [37, digC (c / 16), digC (c % 16)] by unfold shown1; rw [if_neg (by rw [← HC.out]; exact hp), HC.out])
        obtain ⟨p, hp4⟩ : ∃ p, p = c / 16 := ⟨_, rfl⟩
        obtain ⟨q, hq⟩ : ∃ q, q = c % 16 := ⟨_, rfl⟩
        have e1 : (c : Int) / 16 = (p : Int) := by omega
        have e2 : bits BinOp.and IntKind.u8 (c : Int) 15 = (q : Int) := by rw [hq]; exact and15 ⟨c, c256⟩
        have hp16 : p < 16 := by omega
        have hq16 : q < 16 := by omega
        have w1 : IntKind.i64.wrap (p : Int) = (p : Int) := IntWalk.i64_in _ (by omega)
        have w2 : IntKind.i64.wrap (q : Int) = (q : Int) := IntWalk.i64_in _ (by omega)
        have r1 := fun U => rhex_c p (by omega) U
        have r2 := fun U => rhex_c q (by omega) U
        have HR := Lib.hid (show strB (shownP (s.take (k + 1))) = T ++ ⟨#[37]⟩ ++ strB [digC p] ++ strB [digC q] by
          rw [HF.out, HS1.out, HT.out, hp4, hq, show (⟨#[37]⟩ : ByteArray) = strB [37] from rfl, strB_append, strB_append, strB_append]
          simp)
        obtain ⟨A, hA⟩ : ∃ A, A = strB [digC p] := ⟨_, rfl⟩
        obtain ⟨B, hB⟩ : ∃ B, B = strB [digC q] := ⟨_, rfl⟩
        have hA1 : A.size = 1 := by rw [hA]; rfl
        have hB1 : B.size = 1 := by rw [hB]; rfl
        rw [← hA, ← hB] at HR
        rw [← hA] at r1
        rw [← hB] at r2
        have g5 : ¬ 9223372036854775807 < T.size + 1 := by omega
        have g6 : ¬ 9223372036854775807 < T.size + 1 + A.size := by omega
        have g7 : ¬ 9223372036854775807 < T.size + 1 + A.size + B.size := by omega
        clear hA hB hp4 hq
        have hp' : c ≤ 32 ∨ (32 < c ∧ 127 ≤ c) ∨ (32 < c ∧ c < 127 ∧ c = 37) := by omega
        clear hp
        rcases hp' with hp' | ⟨hp1, hp2⟩ | ⟨hp1, hp2, hp3⟩
        all_goals
          try (have b1 : ¬ (33 : Int) ≤ (c : Int) := by omega)
          try (have b1 : (33 : Int) ≤ (c : Int) := by omega)
          try (have b2 : ¬ (c : Int) ≤ 126 := by omega)
          try (have b2 : (c : Int) ≤ 126 := by omega)
          try (have b3 : ((c : Int) != 37) = false := by simp; omega)
          try clear hp3
          go_upto_region 7 with (fail)
          go_quiet (first
            | (go_at_call 51; refine Calls.quiet_of_same (r1 _))
            | (go_at_call 51; refine Calls.quiet_of_same (r2 _)))
          go_wp2
          go_roundg (n - (k + 1))
          case measure => omega
          case rel => exact ⟨k + 1, rfl, by omega, by rw [HR.out], HK.out.trans (drewN_keep _ (fun _ => False) _) (fun _ q => q.elim)⟩
    · have g3 : ¬ (k : Int) < (n : Int) := by omega
      have hk2 : s.take k = s := List.take_of_length_le (by rw [← HX.out.2]; omega)
      rw [hk2] at HT
      clear hk2
      go_wp2
      go_ret
      exact ⟨by rw [← HT.out]; rfl, HK.out⟩

end Go.Proofs.YtdbkkfhneafeiaaDoor
