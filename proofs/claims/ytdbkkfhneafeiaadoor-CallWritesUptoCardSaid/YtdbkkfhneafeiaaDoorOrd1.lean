/-
  The program's reader: take, text, by its state.
-/
import Derived.Test.YtdbkkfhneafeiaaDoorOrd0
import Derived.Test.YtdbkkfhneafeiaaDoorBits
import Derived.Test.YtdbkkfhneafeiaaDoorCode1
import Derived.Deep.RegionHeld3
import Derived.StillTailTactics
import Derived.Deep.RegionLaw
namespace Go.Proofs.YtdbkkfhneafeiaaDoor
open Go Go.RowKit
set_option linter.unusedSectionVars false
set_option linter.unusedSimpArgs false
set_option linter.unusedVariables false
set_option maxRecDepth 100000

/-- A reader in memory, by its state. -/
def OrS (w : World) (rb : Nat) (v : Value) (b : Bs) (s : St) : Prop := ∃ p sh, OrAt w rb v b p sh ∧ s = if sh then none else some p

theorem OrS.aside {w w' : World} {rb : Nat} {v : Value} {b : Bs} {s : St} (h : OrS w rb v b s) (k : Keep w w' (fun _ => False)) : OrS w' rb v b s :=
  let ⟨p, sh, h1, h2⟩ := h; ⟨p, sh, h1.aside k, h2⟩

theorem OrS.lt {w : World} {rb : Nat} {v : Value} {b : Bs} {s : St} (h : OrS w rb v b s) : rb < w.heap.size :=
  let ⟨_, _, h1, _⟩ := h; lt_of_blk h1.cell

theorem OrS.sh {w : World} {rb : Nat} {v : Value} {b : Bs} {s : St} (h : OrS w rb v b s) : w.cell? ⟨rb, 2, none⟩ = some (.bool s.isNone) := by
  obtain ⟨p, sh, h1, rfl⟩ := h
  rw [cell_blk h1.cell]
  cases sh <;> rfl

theorem otake_c {w : World} {rb : Nat} {v : Value} {b : Bs} {s : St} (h : OrS w rb v b s) (n : Nat) (hn : n ≤ 1000000) (hb0 : ∀ p, s = some p → 0 < n ∨ b ≠ []) :
    Calls Tryd.prog 26 #[.pointer (some ⟨rb, 0, none⟩), .int .i64 n] w fun r w' => ∃ a cap l, r = .returned (.slice a l.length cap) ∧ BSl w' (.slice a l.length cap) l ∧ Clear (.slice a l.length cap) (fun x => x = rb) ∧ OrS w' rb v b (takeS b s n).2 ∧ Keep w w' (fun x => x = rb) ∧
      (∀ p, (takeS b s n).2 = some p → l = (takeS b s n).1) ∧ ((takeS b s n).2 = none → l = zeros (min n 4)) := by
  obtain ⟨p, sh, h1, rfl⟩ := h
  by_cases hc : sh = false ∧ p + n ≤ b.length
  · obtain ⟨rfl, hc⟩ := hc
    have e : (if false = true then none else some p) = some p := rfl
    rw [e, takeS_some hc]
    refine (otake_ok h1 n hc (by
      rcases hb0 p rfl with z | z
      · intro e; subst e; simp at hc; omega
      · exact z)).mono ?_
    rintro e w' ⟨sv, rfl, h2, h3, h4, h5⟩
    obtain ⟨a, cap, rfl, _⟩ := h2.val
    exact ⟨a, cap, _, rfl, h2, h3, ⟨_, _, h4, rfl⟩, h5, (fun _ _ => rfl), (fun q => by cases q)⟩
  · have e : takeS b (if sh = true then none else some p) n = ([], none) := by
      cases sh with
      | true => rfl
      | false => exact takeS_short (fun q => hc ⟨rfl, q⟩)
    rw [e]
    refine (otake_no h1 n hn (fun q => by
      rcases Nat.lt_or_ge b.length (p + n) with z | z
      · exact z
      · exact absurd ⟨q, z⟩ hc)).mono ?_
    rintro e w' ⟨sv, rfl, h2, h3, h4, h5⟩
    obtain ⟨a, cap, rfl, _⟩ := h2.val
    exact ⟨a, cap, _, rfl, h2, h3, ⟨_, _, h4, rfl⟩, h5, (fun _ q => by cases q), fun _ => rfl⟩

theorem textS_via {b : Bs} {s s1 : St} {l : Bs} (h : takeS b s 2 = (l, s1)) (x : Bs) (hx : s1 = none ∨ x = l) : (textS b s).2 = (takeS b s1 (val2 x)).2 ∧ ∀ p, (textS b s).2 = some p → (textS b s).1 = (takeS b s1 (val2 x)).1 := by
  unfold textS
  rw [h]
  cases s1 with
  | none => exact ⟨rfl, fun p q => by cases q⟩
  | some p =>
    rcases hx with hx | rfl
    · cases hx
    · exact ⟨rfl, fun _ _ => rfl⟩

set_option maxHeartbeats 2000000 in
theorem otext_c {w : World} {rb : Nat} {v : Value} {b : Bs} {s : St} (h : OrS w rb v b s) :
    Calls Tryd.prog 27 #[.pointer (some ⟨rb, 0, none⟩)] w fun r w' => ∃ l, r = .returned (.string (strB l)) ∧ OrS w' rb v b (textS b s).2 ∧ Keep w w' (fun x => x = rb) ∧ l.length ≤ 65535 ∧ ∀ p, (textS b s).2 = some p → l = (textS b s).1 := by
  have ht := otake_c h 2 (by omega) (fun _ _ => .inl (by omega))
  have hlen := fun p => takeS_len (b := b) (s := s) (n := 2) (p := p)
  obtain ⟨l, s1, hs⟩ : ∃ l s1, takeS b s 2 = (l, s1) := ⟨_, _, rfl⟩
  have hv := fun x hx => textS_via hs x hx
  have hbne : ∀ p, s1 = some p → b ≠ [] := fun p q e => by
    subst q
    obtain ⟨p0, _, _, h3, h4, _⟩ := takeS_inv hs
    rw [e] at h4
    simp at h4
    omega
  rw [hs] at ht hlen
  simp only at ht hlen
  generalize textS b s = TS at *
  have HV := Lib.hid (And.intro hv (And.intro hlen hbne))
  clear h hs hv hlen hbne
  go_enter Tryd.func27, Tryd.ntmps27
  go_wp2_with fail
  refine ht.mono ?_
  rintro e w1 ⟨a, cap, k, rfl, h1, hcl, h2, h3, h4, h5⟩
  have hk : k.length = 2 := by
    cases s1 with
    | none => rw [h5 rfl]; rfl
    | some p => rw [h4 p rfl]; exact HV.out.2.1 p rfl
  have hvia := HV.out.1 k (by
    cases s1 with
    | none => exact .inl rfl
    | some p => exact .inr (h4 p rfl))
  obtain ⟨x, y, rfl⟩ := len_two hk
  have hx := byte_lt x
  have hy := byte_lt y
  simp only [List.length_cons, List.length_nil, Nat.reduceAdd] at h1 hcl ⊢
  obtain ⟨blk, off, rfl, hb, hf⟩ := h1.some (by simp)
  have c0 := hf 0 x rfl
  have c1 := hf 1 y rfl
  rw [Nat.add_zero] at c0
  unfold u8V at c0 c1
  have N := Lib.hid (And.intro h2 (And.intro h3 (hcl blk rfl)))
  clear h1 h2 h3 h4 h5 ht hf hcl
  have hvl := val2_lt [x, y]
  obtain ⟨V, hV⟩ : ∃ V, V = val2 [x, y] := ⟨_, rfl⟩
  rw [← hV] at hvl hvia
  have hv : Hid (V = x.toNat * 256 + y.toNat) := Lib.hid hV
  have HI := Lib.hid hvia
  clear hV hvia hk
  generalize x.toNat = X at *
  generalize y.toNat = Y at *
  have hrd := read2 hx hy
  rw [← hv.out] at hrd
  have htk : ∀ w', Keep w1 w' (fun _ => False) → _ := fun w' K => otake_c (N.out.1.aside K) V (by omega) (fun p q => .inr (HV.out.2.2 p q))
  go_wp2
  go_still_tail 11, (by kernel_rfl)
  change wpList _ _ _ _ _ (w1.drewN 1)
  obtain ⟨w8, hw8⟩ : ∃ w8, w8 = w1.drewN 1 := ⟨_, rfl⟩
  rw [← hw8]
  have ht4 := htk w8 (by rw [hw8]; exact drewN_keep _ _ _)
  have K8 := Lib.hid (show Keep w1 w8 (fun _ => False) by rw [hw8]; exact drewN_keep _ _ _)
  clear hw8 htk c0 c1
  have hsz := Lib.hid (takeS_size b s1 V)
  have HVL := Lib.hid hvl
  go_wp2_with fail
  refine ht4.mono ?_
  rintro e w4 ⟨a4, cap4, l4, rfl, h4, _, h5, h6, h7, h8⟩
  have hcv := str_of (P := Tryd.prog) 22 9 Tryd.underlying22 Tryd.underlying5 Tryd.underlying9 h4
  have N4 := Lib.hid (And.intro h5 h6)
  have N5 := Lib.hid (And.intro h7 h8)
  clear ht4 h4 h5 h6 h7 h8
  go_wp2
  go_ret
  refine ⟨l4, rfl, by rw [HI.out.1]; exact N4.out.1, (N.out.2.1.trans K8.out (fun _ q => q.elim)).trans N4.out.2 (fun _ q => .inl q), ?_, fun p q => ?_⟩
  · cases hz : (takeS b s1 V).2 with
    | none => rw [N5.out.2 hz]; unfold zeros; rw [List.length_replicate]; omega
    | some p =>
      rw [N5.out.1 p hz]
      have := hsz.out
      have := HVL.out
      omega
  · rw [HI.out.2 p q]
    rw [HI.out.1] at q
    exact N5.out.1 p q

end Go.Proofs.YtdbkkfhneafeiaaDoor
