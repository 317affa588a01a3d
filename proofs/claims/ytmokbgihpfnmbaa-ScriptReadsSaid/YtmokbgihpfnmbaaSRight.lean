/-
  Why an item may not be written (script.empty, script.Right).
-/
import Derived.Test.YtmokbgihpfnmbaaItems0
import Derived.Test.YtmokbgihpfnmbaaORight
namespace Go.Proofs.Ytmokbgihpfnmbaa
open Go Go.RowKit
set_option linter.unusedSectionVars false
set_option linter.unusedSimpArgs false
set_option linter.unusedVariables false

set_option maxHeartbeats 4000000 in
theorem empty_c (c : CallV) (a : Option Addr) (cap : Nat) (w : World) (hl : c.data.length ≤ 9223372036854775807) :
    Calls Try.prog 27 #[callA c (.slice a c.data.length cap)] w fun r w' => r = .returned (.bool c.bare) ∧ Keep w w' (fun _ => False) := by
  obtain ⟨op, path, to, fd, fl, md, n, m, dat⟩ := c
  have e : ∀ s : ByteArray, decide (s.toList = []) = decide (s.size = 0) := fun s => by
    rw [decide_eq_decide, ByteArray.toList_eq, List.eq_nil_iff_length_eq_zero, Array.length_toList]
    exact Iff.rfl
  have hB : CallV.bare ⟨op, path, to, fd, fl, md, n, m, dat⟩ = (decide (op = 0) && decide (path.toList = []) && decide (to.toList = []) && decide (fd = 0) && decide (fl = 0) && decide (md = 0) && decide (n = 0) && decide (m = 0) && decide (dat.length = 0)) := by rw [e, e]; rfl
  simp only [callA] at *
  clear e
  generalize dat.length = dl at *
  have HB := Lib.hid hB
  clear hB
  by_cases h0 : op = 0
  · have h0' := h0
    by_cases h1 : path.toList = []
    · have h1' := h1
      by_cases h2 : to.toList = []
      · have h2' := h2
        by_cases h3 : fd = 0
        · have h3' := h3
          by_cases h4 : fl = 0
          · have h4' := h4
            by_cases h5 : md = 0
            · have h5' := h5
              by_cases h6 : n = 0
              · have h6' := h6
                by_cases h7 : m = 0
                · have h7' := h7
                  by_cases h8 : dl = 0
                  · have h8' : ((dl : Int) == 0) = true := by simp [h8]
                    have HV := Lib.hid (show CallV.bare ⟨op, path, to, fd, fl, md, n, m, dat⟩ = true from by rw [HB.out]; simp [h0, h1, h2, h3, h4, h5, h6, h7, h8])
                    go_enter Try.func27, Try.ntmps27
                    go_wp2
                    go_ret
                    exact ⟨by rw [HV.out]; rfl, Keep.alloc _ _ _⟩
                  · have h8' : ((dl : Int) == 0) = false := by simp; omega
                    have HV := Lib.hid (show CallV.bare ⟨op, path, to, fd, fl, md, n, m, dat⟩ = false from by rw [HB.out]; simp [h0, h1, h2, h3, h4, h5, h6, h7, h8])
                    go_enter Try.func27, Try.ntmps27
                    go_wp2
                    go_ret
                    exact ⟨by rw [HV.out]; rfl, Keep.alloc _ _ _⟩
                · have h7' := h7
                  have HV := Lib.hid (show CallV.bare ⟨op, path, to, fd, fl, md, n, m, dat⟩ = false from by rw [HB.out]; simp [h0, h1, h2, h3, h4, h5, h6, h7])
                  go_enter Try.func27, Try.ntmps27
                  go_wp2
                  go_ret
                  exact ⟨by rw [HV.out]; rfl, Keep.alloc _ _ _⟩
              · have h6' := h6
                have HV := Lib.hid (show CallV.bare ⟨op, path, to, fd, fl, md, n, m, dat⟩ = false from by rw [HB.out]; simp [h0, h1, h2, h3, h4, h5, h6])
                go_enter Try.func27, Try.ntmps27
                go_wp2
                go_ret
                exact ⟨by rw [HV.out]; rfl, Keep.alloc _ _ _⟩
            · have h5' := h5
              have HV := Lib.hid (show CallV.bare ⟨op, path, to, fd, fl, md, n, m, dat⟩ = false from by rw [HB.out]; simp [h0, h1, h2, h3, h4, h5])
              go_enter Try.func27, Try.ntmps27
              go_wp2
              go_ret
              exact ⟨by rw [HV.out]; rfl, Keep.alloc _ _ _⟩
          · have h4' := h4
            have HV := Lib.hid (show CallV.bare ⟨op, path, to, fd, fl, md, n, m, dat⟩ = false from by rw [HB.out]; simp [h0, h1, h2, h3, h4])
            go_enter Try.func27, Try.ntmps27
            go_wp2
            go_ret
            exact ⟨by rw [HV.out]; rfl, Keep.alloc _ _ _⟩
        · have h3' := h3
          have HV := Lib.hid (show CallV.bare ⟨op, path, to, fd, fl, md, n, m, dat⟩ = false from by rw [HB.out]; simp [h0, h1, h2, h3])
          go_enter Try.func27, Try.ntmps27
          go_wp2
          go_ret
          exact ⟨by rw [HV.out]; rfl, Keep.alloc _ _ _⟩
      · have h2' := h2
        have HV := Lib.hid (show CallV.bare ⟨op, path, to, fd, fl, md, n, m, dat⟩ = false from by rw [HB.out]; simp [h0, h1, h2])
        go_enter Try.func27, Try.ntmps27
        go_wp2
        go_ret
        exact ⟨by rw [HV.out]; rfl, Keep.alloc _ _ _⟩
    · have h1' := h1
      have HV := Lib.hid (show CallV.bare ⟨op, path, to, fd, fl, md, n, m, dat⟩ = false from by rw [HB.out]; simp [h0, h1])
      go_enter Try.func27, Try.ntmps27
      go_wp2
      go_ret
      exact ⟨by rw [HV.out]; rfl, Keep.alloc _ _ _⟩
  · have h0' := h0
    have HV := Lib.hid (show CallV.bare ⟨op, path, to, fd, fl, md, n, m, dat⟩ = false from by rw [HB.out]; simp [h0])
    go_enter Try.func27, Try.ntmps27
    go_wp2
    go_ret
    exact ⟨by rw [HV.out]; rfl, Keep.alloc _ _ _⟩

set_option maxHeartbeats 4000000 in
theorem sright_c (i : ItemV) (a : Option Addr) (cap : Nat) (w : World) (hl : i.call.path.size ≤ 9223372036854775807 ∧ i.call.to.size ≤ 9223372036854775807 ∧ i.call.data.length ≤ 9223372036854775807) :
    Calls Try.prog 18 #[itemA i (.slice a i.call.data.length cap)] w fun r w' => r = .returned (.int .i64 i.right) ∧ Keep w w' (fun _ => False) := by
  obtain ⟨kind, th, n, c⟩ := i
  simp only at hl
  have he := fun U => empty_c c a cap U hl.2.2
  have hc := True.intro
  obtain ⟨R, hR⟩ : ∃ R, R = ItemV.right ⟨kind, th, n, c⟩ := ⟨_, rfl⟩
  rw [← hR]
  have H1 := Lib.hid (show (kind < 1 ∨ 3 < kind ∨ th < 0 ∨ 255 < th ∨ n < 0 ∨ 65535 < n) → R = 1 from fun h => by rw [hR]; unfold ItemV.right; simp only; rw [if_pos h])
  have H2 := Lib.hid (show ¬ kind < 1 → ¬ 3 < kind → ¬ th < 0 → ¬ 255 < th → ¬ n < 0 → ¬ 65535 < n → kind = 1 → n = 0 → R = c.right from fun _ _ _ _ _ _ h1 h2 => by rw [hR]; unfold ItemV.right; simp only; rw [if_neg (by omega), if_pos h1, if_pos h2])
  have H3 := Lib.hid (show ¬ kind < 1 → ¬ 3 < kind → ¬ th < 0 → ¬ 255 < th → ¬ n < 0 → ¬ 65535 < n → kind = 1 → ¬ n = 0 → R = 1 from fun _ _ _ _ _ _ h1 h2 => by rw [hR]; unfold ItemV.right; simp only; rw [if_neg (by omega), if_pos h1, if_neg h2])
  have H4 := Lib.hid (show ¬ kind < 1 → ¬ 3 < kind → ¬ th < 0 → ¬ 255 < th → ¬ n < 0 → ¬ 65535 < n → ¬ kind = 1 → th = 0 → c.bare = true → R = 0 from fun _ _ _ _ _ _ h1 h2 h3 => by rw [hR]; unfold ItemV.right; simp only; rw [if_neg (by omega), if_neg h1, if_pos ⟨h2, h3⟩])
  have H5 := Lib.hid (show ¬ kind < 1 → ¬ 3 < kind → ¬ th < 0 → ¬ 255 < th → ¬ n < 0 → ¬ 65535 < n → ¬ kind = 1 → (¬ th = 0 ∨ c.bare = false) → R = 1 from fun _ _ _ _ _ _ h1 h2 => by rw [hR]; unfold ItemV.right; simp only; rw [if_neg (by omega), if_neg h1, if_neg (by rintro ⟨q1, q2⟩; rcases h2 with z | z; exact z q1; rw [z] at q2; cases q2)])
  clear hR
  simp only [itemA]
  simp only [itemC, callC]
  by_cases k1 : kind < 1
  · go_enter Try.func18, Try.ntmps18
    go_wp2
    go_ret
    exact ⟨by rw [H1.out (by omega)]; rfl, Keep.alloc _ _ _⟩
  by_cases k3 : 3 < kind
  · go_enter Try.func18, Try.ntmps18
    go_wp2
    go_ret
    exact ⟨by rw [H1.out (by omega)]; rfl, Keep.alloc _ _ _⟩
  by_cases t0 : th < 0
  · go_enter Try.func18, Try.ntmps18
    go_wp2
    go_ret
    exact ⟨by rw [H1.out (by omega)]; rfl, Keep.alloc _ _ _⟩
  by_cases t2 : 255 < th
  · go_enter Try.func18, Try.ntmps18
    go_wp2
    go_ret
    exact ⟨by rw [H1.out (by omega)]; rfl, Keep.alloc _ _ _⟩
  by_cases n0 : n < 0
  · go_enter Try.func18, Try.ntmps18
    go_wp2
    go_ret
    exact ⟨by rw [H1.out (by omega)]; rfl, Keep.alloc _ _ _⟩
  by_cases n6 : 65535 < n
  · go_enter Try.func18, Try.ntmps18
    go_wp2
    go_ret
    exact ⟨by rw [H1.out (by omega)]; rfl, Keep.alloc _ _ _⟩
  by_cases hk : kind = 1
  · by_cases hn : n = 0
    · have hc2 := fun U => oright_c c a cap U hl
      clear he hc
      obtain ⟨op, path, tt, fd, fl, md, n2, m, dat⟩ := c
      simp only [itemC, callC, callA] at hc2 ⊢
      go_enter Try.func18, Try.ntmps18
      go_wp2_with (
        go_at_call 28
        refine (hc2 _).mono ?_
        rintro e w1 ⟨rfl, h1⟩)
      go_ret
      exact ⟨by rw [H2.out k1 k3 t0 t2 n0 n6 hk hn]; rfl, (Keep.alloc w _ (fun _ => False)).trans h1 (fun _ q => q.elim)⟩
    · clear he hc
      go_enter Try.func18, Try.ntmps18
      go_wp2
      go_ret
      exact ⟨by rw [H3.out k1 k3 t0 t2 n0 n6 hk hn]; rfl, Keep.alloc _ _ _⟩
  · by_cases ht : th = 0
    · cases hb : c.bare with
      | true =>
        rw [hb] at he
        have HBB := Lib.hid (show R = 0 from H4.out k1 k3 t0 t2 n0 n6 hk ht hb)
        clear H1 H2 H3 H4 H5 hc hb
        obtain ⟨op, path, tt, fd, fl, md, n2, m, dat⟩ := c
        simp only [itemC, callC, callA] at he ⊢
        go_enter Try.func18, Try.ntmps18
        go_wp2_with (
          go_at_call 27
          refine (he _).mono ?_
          rintro e w1 ⟨rfl, h1⟩
          have d0 : w1.cell? ⟨w.heap.size, 0, none⟩ = some (.int .i64 kind) := by rw [cell_blk (h1.get (heap_alloc_eq w _) (fun q => q))]; rfl)
        go_ret
        exact ⟨by rw [HBB.out]; rfl, (Keep.alloc w _ (fun _ => False)).trans h1 (fun _ q => q.elim)⟩
      | false =>
        rw [hb] at he
        have HBB := Lib.hid (show R = 1 from H5.out k1 k3 t0 t2 n0 n6 hk (.inr hb))
        clear H1 H2 H3 H4 H5 hc hb
        obtain ⟨op, path, tt, fd, fl, md, n2, m, dat⟩ := c
        simp only [itemC, callC, callA] at he ⊢
        go_enter Try.func18, Try.ntmps18
        go_wp2_with (
          go_at_call 27
          refine (he _).mono ?_
          rintro e w1 ⟨rfl, h1⟩
          have d0 : w1.cell? ⟨w.heap.size, 0, none⟩ = some (.int .i64 kind) := by rw [cell_blk (h1.get (heap_alloc_eq w _) (fun q => q))]; rfl)
        go_ret
        exact ⟨by rw [HBB.out]; rfl, (Keep.alloc w _ (fun _ => False)).trans h1 (fun _ q => q.elim)⟩
    · clear he hc
      go_enter Try.func18, Try.ntmps18
      go_wp2
      go_ret
      exact ⟨by rw [H5.out k1 k3 t0 t2 n0 n6 hk (.inl ht)]; rfl, Keep.alloc _ _ _⟩

end Go.Proofs.Ytmokbgihpfnmbaa
