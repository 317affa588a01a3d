/-
  Some of chapter 17's runs (known).
-/
import Derived.Test.YtmokbgihpfnmbaaSEnc
namespace Go.Proofs.Ytmokbgihpfnmbaa
open Go Go.RowKit
set_option linter.unusedSectionVars false
set_option linter.unusedSimpArgs false
set_option linter.unusedVariables false

theorem bsl_lit (w : World) (l : Bs) {cs : Array Value} (hcs : cs = (l.map u8V).toArray) {m g : Nat} (hm : m = l.length) (hl : l.length ≤ 100000) (hg : g = w.heap.size) : BSl (w.alloc (.cells cs 5)) (.slice (some ⟨g, 0, none⟩) m m) l := by
  subst hcs hm hg
  refine .inr ⟨w.heap.size, 0, l.length, rfl, Nat.le_refl _, by unfold maxLen; omega, by simp, fun i u hi => ?_⟩
  rw [Nat.zero_add, cell_blk (heap_alloc_eq w _)]
  simp [hi]

theorem items_lit (w : World) (xs : List ItemD) (hx : ∀ x ∈ xs, GoodD (w.alloc (.cells (flat pairC xs).toArray 39)) x) {cs : Array Value} (hcs : cs = (flat pairC xs).toArray) {m g : Nat} (hm : m = xs.length) (hl : xs.length ≤ 100000) (hg : g = w.heap.size) :
    ItemsIn (w.alloc (.cells cs 39)) (.slice (some ⟨g, 0, none⟩) m m) (xs.map Prod.fst) := by
  subst hcs hm hg
  refine ⟨xs, rfl, hx, some ⟨w.heap.size, 0, none⟩, xs.length, by rw [List.length_map], by rw [List.length_map]; exact Nat.le_refl _, by unfold maxLen; omega, .inr ⟨w.heap.size, 0, rfl, by simp, fun i u hi => ?_⟩⟩
  rw [Nat.zero_add, cell_blk (heap_alloc_eq w _)]
  simpa using hi

theorem goodD_none (w : World) (i : ItemV) (h : i.call.data = []) : GoodD w (i, .slice none 0 0) := by
  refine ⟨⟨none, 0, by simp [h]⟩, ?_⟩
  simp only [h]
  exact .inl (BSl.nil w)

set_option maxRecDepth 100000 in
set_option maxHeartbeats 4000000 in
theorem known_c (w : World) : Calls Try.prog 16 #[] w fun r w' => r = .returned (.bool true) ∧ Keep w w' (fun _ => False) := by
  have hd1 := sdec_c (bsl_lit w [2, 0, 5, 9, 1] (cs := #[.int .u8 2, .int .u8 0, .int .u8 5, .int .u8 9, .int .u8 1]) rfl (m := 5) rfl (by decide) rfl)
  have e1 : decS 1024 [2, 0, 5, 9, 1] = [(⟨2, 0, 5, CallV.none⟩ : ItemV), ItemV.none, ItemV.none] := by kernel_rfl
  rw [e1] at hd1
  have hd2 := fun U => sdec_c (BSl.nil U)
  have e2 : decS 1024 [] = [] := by kernel_rfl
  rw [e2] at hd2
  have k0 := Keep.alloc w (.cells #[.int .u8 2, .int .u8 0, .int .u8 5, .int .u8 9, .int .u8 1] 5) (fun _ => False)
  have hit := fun U => items_lit U [((⟨2, 0, 5, CallV.none⟩ : ItemV), .slice none 0 0), (ItemV.none, .slice none 0 0), (ItemV.none, .slice none 0 0)] (fun x hx => by simp at hx; rcases hx with rfl | rfl | rfl <;> exact goodD_none _ _ rfl) rfl (m := 3) rfl (by decide) rfl
  have HIT := Lib.hid hit
  clear e1 e2 hit
  go_enter Try.func16, Try.ntmps16
  go_wp2_with (first
    | (go_at_call 13
       refine hd1.mono ?_
       rintro e w1 ⟨u1, rfl, q1, q2⟩
       have N1 := Lib.hid (And.intro q1 q2)
       obtain ⟨a1, cap1, rfl, -, -⟩ := q1.val
       clear q1 q2 hd1)
    | (go_at_call 12
       refine (kitems_c (N1.out.1.aside (Keep.alloc w1 _ (fun _ => False))) (HIT.out w1)).mono ?_
       rintro e w2 ⟨rfl, q2⟩
       have N2 := Lib.hid q2
       clear q2)
    | (go_at_call 13
       refine (hd2 _).mono ?_
       rintro e w3 ⟨u3, rfl, q1, q2⟩
       have N3 := Lib.hid q2
       obtain ⟨a3, cap3, rfl, -, -⟩ := q1.val
       clear q1 q2))
  go_ret
  exact ⟨rfl, (((k0.trans N1.out.2 (fun _ q => q.elim)).trans (Keep.alloc w1 _ (fun _ => False)) (fun _ q => q.elim)).trans N2.out (fun _ q => q.elim)).trans N3.out (fun _ q => q.elim)⟩

end Go.Proofs.Ytmokbgihpfnmbaa
