/-
  The document's reader: text, four.
-/
import Derived.Test.YtdbkkfhneafeiaaDoorCode1
import Derived.Test.YtdbkkfhneafeiaaDoorRd0
import Derived.Test.YtdbkkfhneafeiaaDoorCode0
import Derived.Test.YtdbkkfhneafeiaaDoorBits
import Derived.Deep.RegionHeld3
import Derived.StillTailTactics
import Derived.Deep.RegionLaw
namespace Go.Proofs.YtdbkkfhneafeiaaDoor
open Go Go.RowKit
set_option linter.unusedSectionVars false
set_option linter.unusedSimpArgs false
set_option linter.unusedVariables false
set_option maxRecDepth 100000

/-- A reader in memory, by its state. -/
def RdS (w : World) (rb : Nat) (v : Value) (b : Bs) (s : St) : Prop := ∃ p ok, RdAt w rb v b p ok ∧ s = if ok then some p else none

theorem RdS.aside {w w' : World} {rb : Nat} {v : Value} {b : Bs} {s : St} (h : RdS w rb v b s) (k : Keep w w' (fun _ => False)) : RdS w' rb v b s :=
  let ⟨p, ok, h1, h2⟩ := h; ⟨p, ok, h1.aside k, h2⟩

theorem RdS.lt {w : World} {rb : Nat} {v : Value} {b : Bs} {s : St} (h : RdS w rb v b s) : rb < w.heap.size :=
  let ⟨_, _, h1, _⟩ := h; lt_of_blk h1.cell

theorem RdS.ok {w : World} {rb : Nat} {v : Value} {b : Bs} {s : St} (h : RdS w rb v b s) : w.cell? ⟨rb, 2, none⟩ = some (.bool s.isSome) := by
  obtain ⟨p, ok, h1, rfl⟩ := h
  rw [cell_blk h1.cell]
  cases ok <;> rfl

theorem rtake_c {w : World} {rb : Nat} {v : Value} {b : Bs} {s : St} (h : RdS w rb v b s) (n : Nat) (hn : n ≤ 1000000) (hb0 : ∀ p, s = some p → 0 < n ∨ b ≠ []) :
    Calls Tryd.prog 29 #[.pointer (some ⟨rb, 0, none⟩), .int .i64 n] w fun r w' => ∃ a cap, r = .returned (.slice a (takeS b s n).1.length cap) ∧ BSl w' (.slice a (takeS b s n).1.length cap) (takeS b s n).1 ∧ Clear (.slice a (takeS b s n).1.length cap) (fun x => x = rb) ∧ RdS w' rb v b (takeS b s n).2 ∧ Keep w w' (fun x => x = rb) := by
  obtain ⟨p, ok, h1, rfl⟩ := h
  by_cases hc : ok = true ∧ p + n ≤ b.length
  · obtain ⟨rfl, hc⟩ := hc
    have e : (if true = true then some p else none) = some p := rfl
    rw [e, takeS_some hc]
    refine (rtake_ok h1 n hc (by
      rcases hb0 p rfl with z | z
      · intro e; subst e; simp at hc; omega
      · exact z)).mono ?_
    rintro e w' ⟨sv, rfl, h2, h3, h4, h5⟩
    obtain ⟨a, cap, rfl, _⟩ := h2.val
    exact ⟨a, cap, rfl, h2, h3, ⟨_, _, h4, rfl⟩, h5⟩
  · have e : takeS b (if ok = true then some p else none) n = ([], none) := by
      cases ok with
      | false => rfl
      | true => exact takeS_short (fun q => hc ⟨rfl, q⟩)
    rw [e]
    refine (rtake_no h1 n hn (fun q => by
      rcases Nat.lt_or_ge b.length (p + n) with z | z
      · exact z
      · exact absurd ⟨q, z⟩ hc)).mono ?_
    rintro e w' ⟨sv, rfl, h2, h3, h4, h5⟩
    obtain ⟨a, cap, rfl, _⟩ := h2.val
    exact ⟨a, cap, rfl, h2, h3, ⟨_, _, h4, rfl⟩, h5⟩

theorem rtext_c {w : World} {rb : Nat} {v : Value} {b : Bs} {s : St} (h : RdS w rb v b s) :
    Calls Tryd.prog 30 #[.pointer (some ⟨rb, 0, none⟩)] w fun r w' => r = .returned (.string (strB (textS b s).1)) ∧ RdS w' rb v b (textS b s).2 ∧ Keep w w' (fun x => x = rb) := by
  have ht := rtake_c h 2 (by omega) (fun _ _ => .inl (by omega))
  have hlen := fun p => takeS_len (b := b) (s := s) (n := 2) (p := p)
  clear h
  unfold textS
  obtain ⟨l, s1, hs⟩ : ∃ l s1, takeS b s 2 = (l, s1) := ⟨_, _, rfl⟩
  have HBN := Lib.hid (show ∀ p, s1 = some p → b ≠ [] from fun p q e => by
    subst q
    obtain ⟨p0, _, _, h3, h4, _⟩ := takeS_inv hs
    rw [e] at h4
    simp at h4
    omega)
  rw [hs] at ht hlen ⊢
  simp only at ht hlen
  cases s1 with
  | none =>
    clear hlen hs
    go_enter Tryd.func30, Tryd.ntmps30
    go_wp2_with fail
    refine ht.mono ?_
    rintro e w1 ⟨a, cap, rfl, h1, hcl, h2, h3⟩
    have c2 := h2.ok
    simp only [Option.isSome_none] at c2
    have N := Lib.hid (And.intro h2 h3)
    clear h1 h2 h3 ht hcl
    go_wp2
    go_ret
    exact ⟨rfl, N.out.1, N.out.2⟩
  | some p =>
    have hl2 := hlen p rfl
    obtain ⟨x, y, rfl⟩ : ∃ x y, l = [x, y] := by
      match l, hl2 with
      | [x, y], _ => exact ⟨x, y, rfl⟩
    clear hlen hs hl2
    simp only [List.length_cons, List.length_nil, Nat.reduceAdd] at ht
    have hx := byte_lt x
    have hy := byte_lt y
    go_enter Tryd.func30, Tryd.ntmps30
    go_wp2_with fail
    refine ht.mono ?_
    rintro e w1 ⟨a, cap, rfl, h1, hcl, h2, h3⟩
    have c2 := h2.ok
    simp only [Option.isSome_some] at c2
    obtain ⟨blk, off, rfl, hb, hf⟩ := h1.some (by simp)
    have c0 := hf 0 x rfl
    have c1 := hf 1 y rfl
    rw [Nat.add_zero] at c0
    unfold u8V at c0 c1
    have N := Lib.hid (And.intro h2 (And.intro h3 (hcl blk rfl)))
    clear h1 h2 h3 ht hf hcl
    have hvl := val2_lt [x, y]
    obtain ⟨V, hV⟩ : ∃ V, V = val2 [x, y] := ⟨_, rfl⟩
    rw [← hV] at hvl
    have hv : Hid (V = x.toNat * 256 + y.toNat) := Lib.hid hV
    have HV := Lib.hid hV
    clear hV
    generalize x.toNat = X at *
    generalize y.toNat = Y at *
    have hrd := read2 hx hy
    rw [← hv.out] at hrd
    have htk : ∀ w', Keep w1 w' (fun _ => False) → _ := fun w' K => rtake_c (N.out.1.aside K) V (by omega) (fun _ _ => .inr (HBN.out _ rfl))
    go_wp2
    go_still_tail 11, (by kernel_rfl)
    change wpList _ _ _ _ _ (w1.drewN 1)
    obtain ⟨w8, hw8⟩ : ∃ w8, w8 = w1.drewN 1 := ⟨_, rfl⟩
    rw [← hw8]
    have ht4 := htk w8 (by rw [hw8]; exact drewN_keep _ _ _)
    have K8 := Lib.hid (show Keep w1 w8 (fun _ => False) by rw [hw8]; exact drewN_keep _ _ _)
    clear hw8 htk c0 c1 c2
    go_wp2_with fail
    refine ht4.mono ?_
    rintro e w4 ⟨a4, cap4, rfl, h4, _, h5, h6⟩
    have hcv := str_of (P := Tryd.prog) 22 9 Tryd.underlying22 Tryd.underlying5 Tryd.underlying9 h4
    have N4 := Lib.hid (And.intro h5 h6)
    clear ht4 h4 h5 h6
    go_wp2
    go_ret
    rw [← HV.out]
    exact ⟨rfl, N4.out.1, (N.out.2.1.trans K8.out (fun _ q => q.elim)).trans N4.out.2 (fun _ q => .inl q)⟩

theorem rfour_c {w : World} {rb : Nat} {v : Value} {b : Bs} {s : St} (h : RdS w rb v b s) :
    Calls Tryd.prog 31 #[.pointer (some ⟨rb, 0, none⟩)] w fun r w' => r = .returned (.int .i64 (fourS b s).1) ∧ RdS w' rb v b (fourS b s).2 ∧ Keep w w' (fun x => x = rb) := by
  have ht := rtake_c h 4 (by omega) (fun _ _ => .inl (by omega))
  have hlen := fun p => takeS_len (b := b) (s := s) (n := 4) (p := p)
  clear h
  unfold fourS
  obtain ⟨l, s1, hs⟩ : ∃ l s1, takeS b s 4 = (l, s1) := ⟨_, _, rfl⟩
  rw [hs] at ht hlen ⊢
  simp only at ht hlen
  cases s1 with
  | none =>
    clear hlen hs
    go_enter Tryd.func31, Tryd.ntmps31
    go_wp2_with fail
    refine ht.mono ?_
    rintro e w1 ⟨a, cap, rfl, h1, hcl, h2, h3⟩
    have c2 := h2.ok
    simp only [Option.isSome_none] at c2
    have N := Lib.hid (And.intro h2 h3)
    clear h1 h2 h3 ht hcl
    go_wp2
    go_ret
    exact ⟨rfl, N.out.1, N.out.2⟩
  | some p =>
    have hl2 := hlen p rfl
    obtain ⟨x, y, z, u, rfl⟩ : ∃ x y z u, l = [x, y, z, u] := by
      match l, hl2 with
      | [x, y, z, u], _ => exact ⟨x, y, z, u, rfl⟩
    clear hlen hs hl2
    simp only [List.length_cons, List.length_nil, Nat.reduceAdd] at ht
    have hx := byte_lt x
    have hy := byte_lt y
    have hz := byte_lt z
    have hu := byte_lt u
    go_enter Tryd.func31, Tryd.ntmps31
    go_wp2_with fail
    refine ht.mono ?_
    rintro e w1 ⟨a, cap, rfl, h1, hcl, h2, h3⟩
    have c2 := h2.ok
    simp only [Option.isSome_some] at c2
    obtain ⟨blk, off, rfl, hb, hf⟩ := h1.some (by simp)
    have c0 := hf 0 x rfl
    have c1 := hf 1 y rfl
    have c3 := hf 2 z rfl
    have c4 := hf 3 u rfl
    rw [Nat.add_zero] at c0
    unfold u8V at c0 c1 c3 c4
    have N := Lib.hid (And.intro h2 h3)
    clear h1 h2 h3 ht hf hcl
    have hvl := val4_lt [x, y, z, u]
    obtain ⟨V, hV⟩ : ∃ V, V = val4 [x, y, z, u] := ⟨_, rfl⟩
    rw [← hV] at hvl
    have hv : V = x.toNat * 16777216 + y.toNat * 65536 + z.toNat * 256 + u.toNat := hV
    have HV := Lib.hid hV
    clear hV
    generalize x.toNat = A at *
    generalize y.toNat = B at *
    generalize z.toNat = C at *
    generalize u.toNat = D at *
    have hrd := read4' hx hy hz hu
    rw [← hv] at hrd
    have hsg := wrap32_sgn V hvl
    have hsb := sgn_bd V hvl
    obtain ⟨S, hS⟩ : ∃ S, S = sgn V := ⟨_, rfl⟩
    rw [← hS] at hsg hsb
    have hwr : wrap64 S = S := IntWalk.wrap64_in _ ⟨by omega, by omega⟩
    have HS := Lib.hid hS
    clear hS
    clear hv hvl hx hy hz hu
    go_wp2
    go_quiet (fail)
    go_wp2
    go_ret
    refine ⟨by rw [← HV.out, ← HS.out]; rfl, N.out.1.aside (drewN_keep _ _ _), N.out.2.trans (drewN_keep _ (fun _ => False) _) (fun _ q => q.elim)⟩

end Go.Proofs.YtdbkkfhneafeiaaDoor
