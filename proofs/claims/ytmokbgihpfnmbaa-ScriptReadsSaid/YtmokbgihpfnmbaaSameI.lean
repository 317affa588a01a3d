/-
  Calls, items held against one another (warrenkeep.Call, Item, Items): what is the same is told so.
-/
import Derived.Test.YtmokbgihpfnmbaaSDec
import Derived.StillTailTactics
import Derived.Deep.LoopGhost
namespace Go.Proofs.Ytmokbgihpfnmbaa
open Go Go.RowKit
set_option linter.unusedSectionVars false
set_option linter.unusedSimpArgs false
set_option linter.unusedVariables false

set_option maxHeartbeats 4000000 in
theorem kcall_c {w : World} {c : CallV} {a1 a2 : Option Addr} {cap1 cap2 : Nat} (h1 : BSr w (.slice a1 c.data.length cap1) c.data) (h2 : BSr w (.slice a2 c.data.length cap2) c.data) :
    Calls Try.prog 33 #[callA c (.slice a1 c.data.length cap1), callA c (.slice a2 c.data.length cap2)] w fun r w' => r = .returned (.bool true) ∧ Keep w w' (fun _ => False) := by
  have k1 : ∀ o1 o2, Keep w ((w.alloc o1).alloc o2) (fun _ => False) := fun o1 o2 => (Keep.alloc w o1 (fun _ => False)).trans (Keep.alloc _ o2 (fun _ => False)) (fun _ q => q.elim)
  have e1 : ∀ o1 o2, (convert 22 9 (.slice a1 c.data.length cap1)).run Try.prog ((w.alloc o1).alloc o2) = .ok (.string (strB c.data)) ((w.alloc o1).alloc o2) := fun o1 o2 => str_ofr 22 9 Try.underlying22 Try.underlying5 Try.underlying9 (h1.aside (k1 o1 o2))
  have e2 : ∀ o1 o2, (convert 22 9 (.slice a2 c.data.length cap2)).run Try.prog ((w.alloc o1).alloc o2) = .ok (.string (strB c.data)) ((w.alloc o1).alloc o2) := fun o1 o2 => str_ofr 22 9 Try.underlying22 Try.underlying5 Try.underlying9 (h2.aside (k1 o1 o2))
  clear h1 h2
  obtain ⟨op, path, tt, fd, fl, md, n, m, dat⟩ := c
  simp only [callA] at e1 e2 ⊢
  go_enter Try.func33, Try.ntmps33
  go_wp2
  go_ret
  exact ⟨rfl, k1 _ _⟩

set_option maxHeartbeats 4000000 in
theorem kitem_c {w : World} {i : ItemV} {a1 a2 : Option Addr} {cap1 cap2 : Nat} (h1 : BSr w (.slice a1 i.call.data.length cap1) i.call.data) (h2 : BSr w (.slice a2 i.call.data.length cap2) i.call.data) :
    Calls Try.prog 21 #[itemA i (.slice a1 i.call.data.length cap1), itemA i (.slice a2 i.call.data.length cap2)] w fun r w' => r = .returned (.bool true) ∧ Keep w w' (fun _ => False) := by
  have k1 : ∀ o1 o2, Keep w ((w.alloc o1).alloc o2) (fun _ => False) := fun o1 o2 => (Keep.alloc w o1 (fun _ => False)).trans (Keep.alloc _ o2 (fun _ => False)) (fun _ q => q.elim)
  have hc := fun o1 o2 => kcall_c (h1.aside (k1 o1 o2)) (h2.aside (k1 o1 o2))
  clear h1 h2
  obtain ⟨ik, ith, inn, ⟨op, path, tt, fd, fl, md, n, m, dat⟩⟩ := i
  simp only [itemA, itemC, callC, callA] at hc ⊢
  go_enter Try.func21, Try.ntmps21
  go_wp2_with (
    go_at_call 33
    refine (hc _ _).mono ?_
    rintro e w3 ⟨rfl, h3⟩)
  go_ret
  exact ⟨rfl, (k1 _ _).trans h3 (fun _ q => q.elim)⟩

theorem ItemsIn.at {w : World} {a : Option Addr} {n cap : Nat} {L : List ItemV} (h : ItemsIn w (.slice a n cap) L) {i : Nat} (hi : i < L.length) : ∃ b off x, a = some ⟨b, off, none⟩ ∧ L[i]? = some x.1 ∧ GoodD w x ∧ ∀ j u, (pairC x)[j]? = some u → w.cell? ⟨b, off + i * 12 + j, none⟩ = some u := by
  obtain ⟨xs, h1, h2, a', cap', h3, h4, h5, h6⟩ := h
  simp only [Value.slice.injEq] at h3
  rcases h6 with h6 | ⟨b, off, e, hb, hc⟩
  · rw [h6] at hi; simp at hi
  · have hl : xs.length = L.length := by rw [← h1, List.length_map]
    obtain ⟨x, hx⟩ : ∃ x, xs[i]? = some x := ⟨_, List.getElem?_eq_getElem (by omega)⟩
    refine ⟨b, off, x, by rw [h3.1, e], by rw [← h1]; exact mapGet hx, h2 x (List.mem_of_getElem? hx), fun j u hj => ?_⟩
    rw [Nat.add_assoc]
    refine hc (i * 12 + j) u ?_
    have hj12 : j < 12 := by
      have := (List.getElem?_eq_some_iff.1 hj).1
      rw [pairC_len] at this
      exact this
    rw [flat_get pairC 12 pairC_len hx hj12]
    exact hj

set_option maxHeartbeats 4000000 in
theorem kitems_c {w : World} {v1 v2 : Value} {L : List ItemV} (h1 : ItemsIn w v1 L) (h2 : ItemsIn w v2 L) :
    Calls Try.prog 12 #[v1, v2] w fun r w' => r = .returned (.bool true) ∧ Keep w w' (fun _ => False) := by
  obtain ⟨a1, cap1, rfl, hc1, hm1⟩ := h1.val
  obtain ⟨a2, cap2, rfl, hc2, hm2⟩ := h2.val
  have H := Lib.hid (And.intro h1 h2)
  clear h1 h2
  generalize hn : L.length = n at *
  have HN := Lib.hid hn
  unfold maxLen at hm1 hm2
  clear hn
  go_enter Try.func12, Try.ntmps12
  go_wp2
  go_loopg [5] n (fun g s5 wr => ∃ i : Nat, s5 = .int .i64 i ∧ i + g = n ∧ Keep w wr (fun _ => False))
  case atStart => exact ⟨0, rfl, by omega, Keep.refl _ _⟩
  case round =>
    obtain ⟨i, rfl, hi, hK⟩ := hrel
    by_cases hlt : i < n
    · have hlt' : (i : Int) < (n : Int) := by omega
      have i1 := H.out.1.aside hK
      have i2 := H.out.2.aside hK
      obtain ⟨b1, o1, x1, rfl, l1, g1, c1⟩ := i1.at (i := i) (by rw [HN.out]; exact hlt)
      obtain ⟨b2, o2, x2, rfl, l2, g2, c2⟩ := i2.at (i := i) (by rw [HN.out]; exact hlt)
      obtain ⟨it, dv1⟩ := x1
      obtain ⟨it', dv2⟩ := x2
      simp only at l1 l2
      rw [l1] at l2
      cases l2
      obtain ⟨⟨d1, cd1, e1⟩, B1⟩ := g1
      obtain ⟨⟨d2, cd2, e2⟩, B2⟩ := g2
      simp only at e1 e2 B1 B2
      subst e1 e2
      have hit := fun (U : World) (k : Keep wr U (fun _ => False)) => kitem_c (B1.aside k) (B2.aside k)
      have hwi : IntKind.i64.wrap ((i : Int) + 1) = (i : Int) + 1 := IntWalk.i64_in _ (by omega)
      clear i1 i2 l1 B1 B2
      obtain ⟨ik, ith, inn, ⟨op, path, tt, fd, fl, md, n2, m2, dat⟩⟩ := it
      simp only [itemA, itemC, callC] at hit
      have u0 := c1 0 _ rfl
      have v0 := c2 0 _ rfl
      have u1 := c1 1 _ rfl
      have v1 := c2 1 _ rfl
      have u2 := c1 2 _ rfl
      have v2 := c2 2 _ rfl
      have u3 := c1 3 _ rfl
      have v3 := c2 3 _ rfl
      have u4 := c1 4 _ rfl
      have v4 := c2 4 _ rfl
      have u5 := c1 5 _ rfl
      have v5 := c2 5 _ rfl
      have u6 := c1 6 _ rfl
      have v6 := c2 6 _ rfl
      have u7 := c1 7 _ rfl
      have v7 := c2 7 _ rfl
      have u8 := c1 8 _ rfl
      have v8 := c2 8 _ rfl
      have u9 := c1 9 _ rfl
      have v9 := c2 9 _ rfl
      have u10 := c1 10 _ rfl
      have v10 := c2 10 _ rfl
      have u11 := c1 11 _ rfl
      have v11 := c2 11 _ rfl
      simp only [Nat.add_zero] at u0 v0
      clear c1 c2
      have HK := Lib.hid hK
      clear hK
      go_wp2
      go_still_tail 8, (by kernel_rfl)
      obtain ⟨wq, hwq⟩ : ∃ wq, wq = wr.drewN 1 := ⟨_, rfl⟩
      have kq : Keep wr wq (fun _ => False) := by rw [hwq]; exact drewN_keep _ _ _
      have hit2 := hit wq kq
      have KQ := Lib.hid kq
      change wpList _ _ _ _ _ (wr.drewN 1)
      rw [← hwq]
      clear hwq kq hit u0 v0 u1 v1 u2 v2 u3 v3 u4 v4 u5 v5 u6 v6 u7 v7 u8 v8 u9 v9 u10 v10 u11 v11
      go_wp2_with (
        go_at_call 21
        refine hit2.mono ?_
        rintro e w3 ⟨rfl, h3⟩
        have K3 := Lib.hid h3
        clear h3 hit2)
      go_roundg (n - (i + 1))
      case rel => exact ⟨i + 1, by rw [Int.natCast_add]; rfl, by omega, HK.out.trans (KQ.out.trans K3.out (fun _ q => q.elim)) (fun _ q => q.elim)⟩
      case measure => omega
    · have hlt' : ¬ (i : Int) < (n : Int) := by omega
      go_wp2
      go_ret
      exact ⟨rfl, hK⟩

end Go.Proofs.Ytmokbgihpfnmbaa
