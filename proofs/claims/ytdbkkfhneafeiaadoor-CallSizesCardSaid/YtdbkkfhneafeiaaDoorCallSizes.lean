/-
  CallSizes: the walk.
-/
import Derived.Test.YtdbkkfhneafeiaaDoorCKnown
import Derived.Test.YtdbkkfhneafeiaaDoorOEnc
import Derived.Below
namespace Go.Proofs.YtdbkkfhneafeiaaDoor
open Go Go.RowKit Go.Shelf
set_option linter.unusedSectionVars false
set_option linter.unusedSimpArgs false
set_option linter.unusedVariables false
set_option maxRecDepth 100000
attribute [local go_sem] Oper.semAt_some

theorem own_bsl {w : World} {v : Value} {l : Bs} (h : OwnB w v l) : BSl w v l := by
  have h' : w.ownsRow 0 5 1 v (l.map u8V).length (l.map u8V) := by rw [List.length_map]; exact h
  exact rows_bsl h' rfl

set_option maxHeartbeats 4000000 in
theorem sizes_walk (c : CallV) (a : Option Addr) (cap : Nat) (cut : Int) (w : World) (ht : Tabs w) (hd : BSr w (.slice a c.data.length cap) c.data) (hl : c.path.size ≤ 9223372036854775807 ∧ c.to.size ≤ 9223372036854775807 ∧ c.data.length ≤ 9223372036854775807) :
    Calls Tryd.prog 8 #[callA c (.slice a c.data.length cap), .int .i64 cut] w fun r w' => r = .returned (.bool true) ∧ Keep w w' (fun _ => False) := by
  obtain ⟨W1, hW1⟩ : ∃ W1, W1 = w.alloc (.cells (callC c (.slice a c.data.length cap)).toArray 24) := ⟨_, rfl⟩
  have k1 := Keep.alloc w (.cells (callC c (.slice a c.data.length cap)).toArray 24) (fun _ => False)
  have b1 := heap_alloc_eq w (.cells (callC c (.slice a c.data.length cap)).toArray 24)
  rw [← hW1] at k1 b1
  have he := oenc_c c a cap (hd.aside k1) hl
  have D := Lib.hid (And.intro k1 (And.intro b1 ht))
  simp only [callC] at hW1 b1
  have d0 := cell_blk b1 0
  have d1 := cell_blk b1 1
  have d2 := cell_blk b1 2
  have d3 := cell_blk b1 3
  have d4 := cell_blk b1 4
  have d5 := cell_blk b1 5
  have d6 := cell_blk b1 6
  have d7 := cell_blk b1 7
  have d8 := cell_blk b1 8
  simp only [List.getElem?_toArray, List.getElem?_cons_zero, List.getElem?_cons_succ] at d0 d1 d2 d3 d4 d5 d6 d7 d8
  unfold callA at he ⊢
  obtain ⟨R, hR⟩ : ∃ R, R = c.right := ⟨_, rfl⟩
  rw [← hR] at he
  by_cases h0 : R = 0
  · subst h0
    rw [if_pos rfl] at he
    have hfit := CallV.fits_of hR.symm
    have hlen := enc_length c
    have hcut := fun k (hk : k < c.enc.length) => decC_cut hfit hk
    have hp := hfit.path
    have hto := hfit.to
    have hda := hfit.data
    generalize c.enc = E at *
    obtain ⟨L, hL⟩ : ∃ L, L = E.length := ⟨_, rfl⟩
    rw [← hL] at hlen hcut
    have HE := Lib.hid (And.intro hL (And.intro hcut (And.intro hR hfit)))
    clear hL hcut hR hfit
    have gne : ((L : Int) != 27 + (c.path.size : Int) + (c.to.size : Int) + (c.data.length : Int)) = false := by simp; omega
    have geq : (L : Int) = 27 + (c.path.size : Int) + (c.to.size : Int) + (c.data.length : Int) := by omega
    have gw : IntKind.i64.wrap ((L : Int) - 1) = (L : Int) - 1 := IntWalk.i64_in _ (by omega)
    have hL9 : L ≤ 300000 := by omega
    have hL1 : 27 ≤ L := by omega
    have hwi := fun U => within_c U cut 0 ((L : Int) - 1) (by omega) (by omega) (by omega)
    have HG := Lib.hid geq
    clear geq hlen ht hd hl
    go_enter Tryd.func8, Tryd.ntmps8
    go_upto_region 1 with (fail)
    rw [← hW1]
    clear hW1
    go_wp2_with (first
      | (go_at_call 18
         with_reducible refine he.mono ?_
         rintro e w2 ⟨v2, rfl, h1, h2, h3⟩
         obtain ⟨a2, n2, cap2, rfl, hn2⟩ := h1.val
         obtain rfl : n2 = L := by rw [hn2, HE.out.1]
         have e1 := h2.cell d1 (fun q => q)
         have e2 := h2.cell d2 (fun q => q)
         have e8 := h2.cell d8 (fun q => q)
         have hbs := own_bsl h1
         have hcap2 : n2 ≤ cap2 := by obtain ⟨_, _, e, hh, _⟩ := hbs.val; rw [← HE.out.1] at hh e; simp only [Value.slice.injEq] at e; omega
         obtain ⟨g2, off2, rfl, hg2, hcells⟩ := hbs.some (by rw [← HE.out.1]; omega)
         have N2 := Lib.hid (And.intro hbs h2)
         clear h1 h2 h3 hbs hcells hn2 he)
      | (go_at_call 10
         refine (hwi _).mono ?_
         rintro e w3 ⟨z, hz0, hz1, rfl, rfl⟩
         obtain ⟨k, rfl⟩ : ∃ k : Nat, z = k := ⟨z.toNat, by omega⟩
         have hk1 : (k : Int) ≤ (n2 : Int) := by omega
         have hk2 : k ≤ n2 := by omega
         have hkn : k < n2 := by omega
         have hk3 : k ≤ cap2 := by omega
         have hdec : Calls Tryd.prog 12 #[.slice (some ⟨g2, off2, none⟩) k cap2] w2 fun r w' => ∃ v, (∃ a cap, v = .slice a 0 cap) ∧ r = .returned (.tuple #[callA CallV.none v, .int .i64 0, .int .i64 10]) ∧ Keep w2 w' (fun _ => False) := by
           have hp := N2.out.1.part (i := 0) (n := k) (by rw [← HE.out.1]; omega) (.inl rfl)
           rw [List.drop_zero] at hp
           have h := odec_c hp
           rw [HE.out.2.1 k hkn] at h
           refine h.mono ?_
           rintro e w' ⟨a4, cap4, rfl, -, k4, -⟩
           exact ⟨_, ⟨a4, cap4, rfl⟩, rfl, k4⟩)
      | (go_at_call 12
         with_reducible refine hdec.mono ?_
         rintro e w4 ⟨v4, ⟨a4, cap4, rfl⟩, rfl, hk4⟩
         unfold callA
         have N4 := Lib.hid ((N2.out.2.trans hk4 (fun _ q => q.elim)))
         clear hk4)
      | (go_at_call 16
         refine (known_c _ (D.out.2.2.keep ((D.out.1.trans N4.out (fun _ q => q.elim)).trans (Keep.alloc w4 _ (fun _ => False)) (fun _ q => q.elim)))).mono ?_
         rintro e w5 ⟨rfl, hk5⟩
         have N5 := Lib.hid hk5
         clear hk5))
    go_ret
    exact ⟨rfl, ((D.out.1.trans N4.out (fun _ q => q.elim)).trans (Keep.alloc w4 _ (fun _ => False)) (fun _ q => q.elim)).trans N5.out (fun _ q => q.elim)⟩
  · rw [if_neg h0] at he
    have hb0 : (R != 0) = true := by simp [h0]
    clear hR hl hd
    have HT := Lib.hid ht
    clear ht
    go_enter Tryd.func8, Tryd.ntmps8
    go_upto_region 1 with (fail)
    rw [← hW1]
    clear hW1
    go_wp2_with (first
      | (go_at_call 18
         with_reducible refine he.mono ?_
         rintro e w2 ⟨v2, rfl, h1, h2, h3⟩
         obtain ⟨a2, n2, cap2, rfl, hn2⟩ := h1.val
         obtain rfl : n2 = 0 := hn2
         have N2 := Lib.hid h2
         clear h1 h2 h3 he)
      | (go_at_call 16
         refine (known_c _ (HT.out.keep (D.out.1.trans N2.out (fun _ q => q.elim)))).mono ?_
         rintro e w5 ⟨rfl, hk5⟩
         have N5 := Lib.hid hk5
         clear hk5))
    go_ret
    exact ⟨rfl, (D.out.1.trans N2.out (fun _ q => q.elim)).trans N5.out (fun _ q => q.elim)⟩

theorem sizes_below {p : Prop} (c : CallV) (a : Option Addr) (cap : Nat) (cut : Int) (w : World) (ht : Tabs w) (hd : BSr w (.slice a c.data.length cap) c.data ∧ (c.path.size ≤ 9223372036854775807 ∧ c.to.size ≤ 9223372036854775807 ∧ c.data.length ≤ 9223372036854775807) ∧ ∀ x : Fin 5, -9223372036854775808 ≤ c.num x.val ∧ c.num x.val ≤ 9223372036854775807) (_ : p) :
    Calls Tryd.prog 8 #[callA c (.slice a c.data.length cap), .int .i64 cut] w fun r w' => r = .returned (.bool true) ∧ Below w.heap.size w w' :=
  (sizes_walk c a cap cut w ht hd.1 hd.2.1).mono fun _ _ h => ⟨h.1, h.2.below (Nat.le_refl _) (fun _ q => q.elim)⟩

end Go.Proofs.YtdbkkfhneafeiaaDoor
