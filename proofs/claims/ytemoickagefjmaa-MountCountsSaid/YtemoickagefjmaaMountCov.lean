/-
  Does a mount lie at some place of a node?
-/
import Derived.Test.YtemoickagefjmaaMountOver
namespace Go.Proofs.Ytemoickagefjmaa
open Go Go.RowKit Go.Shelf
set_option linter.unusedSectionVars false
set_option linter.unusedSimpArgs false
set_option linter.unusedVariables false
set_option maxRecDepth 100000
attribute [local go_sem] Oper.semAt_some

theorem cov_res {W : World} {b4 : Nat} {ok : Bool} {T : Array Value} (z4 : W.heap[b4]? = some (.cells #[.bool ok] 4 (0, 0))) (h4 : T.getD 4 undef = .pointer (some ⟨b4, 0, none⟩)) :
    (results Try.f40 T).run Try.prog W = .ok (.bool ok) W := by
  have y4 : W.cell? ⟨b4, 0, none⟩ = some (.bool ok) := by rw [cell_blk z4]; rfl
  have h4' : T[4]?.getD undef = .pointer (some ⟨b4, 0, none⟩) := by simpa using h4
  simp [results, Try.results40, go_sem, h4', y4]

def covAt (n : Int) (x : Mnt) : Bool := decide (0 < x.1) && decide (x.2.an = n)

/-- Covered on its way. -/
structure CvI (w : World) (n : Int) (pre : List Mnt) (U : World) : Prop where
  keep : Keep w U (fun _ => False)
  box : U.heap[w.heap.size]? = some (.cells #[.int .i64 n] 3 (0, 0))
  r4 : U.heap[w.heap.size + 1]? = some (.cells #[.bool false] 4 (0, 0))
  none : ∀ y ∈ pre, covAt n y = false
structure CvX (w : World) (n : Int) (c : Code) (pre : List Mnt) (U : World) : Prop where
  ret : c = .ret
  keep : Keep w U (fun _ => False)
  ex : ∃ qs y, pre = qs ++ [y] ∧ covAt n y = true ∧ U.heap[w.heap.size + 1]? = some (.cells #[.bool true] 4 (0, 0))

set_option maxHeartbeats 4000000 in
theorem mcov_c {w : World} {tb : Nat} {S : Nat → Prop} {V : MountV} (h : TableAt w tb S V) (n : Int) :
    Calls Try.prog 40 #[.pointer (some ⟨tb, 0, none⟩), .int .i64 n] w fun e w' => e = .returned (.bool (V.covered n)) ∧ Keep w w' (fun _ => False) := by
  have H := Lib.hid h
  clear h
  refine calls_marks Try.func40 rfl ?_
  simp only [Try.ntmps40, List.size_toArray, List.length_cons, List.length_nil, Nat.reduceAdd, Nat.reduceSub, Array.replicate_succ, Array.replicate_zero, List.push_toArray, List.append_toArray, List.nil_append, List.cons_append]
  go_wp2_with (
    go_at_call 58
    refine (mord_c _ _).mono ?_
    rintro e w11 ⟨rfl, rfl⟩)
  obtain ⟨wL, hwL⟩ : ∃ wL, wL = ((w.alloc (.cells #[.int .i64 n] 3)).alloc (.cells #[.bool false] 4)).alloc (.cells #[.pointer (some ⟨tb, 0, none⟩)] 50) := ⟨_, rfl⟩
  have W0 : _ := boxes3 w (.cells #[.int .i64 n] 3) (.cells #[.bool false] 4) (.cells #[.pointer (some ⟨tb, 0, none⟩)] 50)
  rw [← hwL] at W0
  have HW := Lib.hid W0
  have hz1 : wL.heap.size ≤ w.heap.size + 3 := by have := W0.2.2.2.2; omega
  have hz2 : w.heap.size + 3 ≤ wL.heap.size := by have := W0.2.2.2.2; omega
  clear W0
  rw [← hwL]
  clear hwL
  have hSlt := H.out.lt
  have hI0 : CvI w n [] wL := ⟨HW.out.1, HW.out.2.1, HW.out.2.2.1, fun y hy => by cases hy⟩
  have HI0 := Lib.hid hI0
  have HS := Lib.hid hSlt
  clear hI0 hSlt
  refine wp_rangeD (α := Mnt) (enc := encM) (X := fun _ _ => False) (ee := 0) (Kp := KpM (fun b => b = w.heap.size + 1) wL.heap.size) (S := fun xs => xs = V.live) (Sp := fun pre => pre <+: V.live)
    (gf := 64) (lb := #[.pointer (some ⟨w.heap.size + 1 + 1, 0, none⟩)]) rfl (enters_of Try.func64 (by kernel_rfl) rfl)
    (fun l J Jx W hW hJ hJx hY h0 => mord1_in l (w.heap.size + 1 + 1) tb S _ V wL.heap.size (fun b q => ⟨by omega, fun z => by have := HS.out b z; omega⟩) ⟨by omega, by omega⟩ (fun b q => by have := HS.out b q; omega) J Jx W hW.size hJ (fun pre x U => hY pre x U) ((Keep.of_below hW).get HW.out.2.2.2.1 (by omega)) ((H.out.aside HW.out.1).keep (Keep.of_below hW) (fun b q z => by have := HS.out b q; omega)) h0)
    (fun b q => q.elim) (fun h k => KpM.trans h k) (fun W l o o' hl ho hc hw => (keep_of_grown (grownBy_putObj' W l o')).mono fun b e => .inr (by simp only [Option.some.injEq] at e; omega))
    (fun x => rfl) (fun h => h.mono fun _ q => q.elim) (fun x => .cells #[.int .i64 x.2.top, .int .i64 x.2.am, .int .i64 x.2.an] 95 (0, 0))
    (fun x B t => (((t.setIfInBounds 9 (.int .i64 x.1)).setIfInBounds 10 (mntV x.2)).setIfInBounds 5 (.int .i64 x.1)).setIfInBounds 6 (.pointer (some ⟨B, 0, none⟩)))
    (fun x t => (t.setIfInBounds 9 (.int .i64 x.1)).setIfInBounds 10 (mntV x.2)) (fun x t => zip_two _ _ _ _ t)
    (CvI w n) (CvX w n) ?abide ?abidex HI0.out ?assign ?body ?done ?stop
  case abide =>
    intro pre A1 A2 hA k
    have hn : ∀ b, b < wL.heap.size → ¬ Turns wL.heap.size (fun _ => False) A1 b := fun b hb q => by
      rcases q with q | q
      · exact q
      · have := q.1; omega
    exact ⟨hA.keep.trans k (fun b q => .inr (by rcases q with q | q; exact q.elim; have := q.1; omega)), k.get hA.box (hn _ (by omega)), k.get hA.r4 (hn _ (by omega)), hA.none⟩
  case abidex =>
    intro c pre A1 A2 hA k
    have hn : ∀ b, b < wL.heap.size → ¬ Turns wL.heap.size (fun _ => False) A1 b := fun b hb q => by
      rcases q with q | q
      · exact q
      · have := q.1; omega
    obtain ⟨qs, y, e1, e2, e4⟩ := hA.ex
    exact ⟨hA.ret, hA.keep.trans k (fun b q => .inr (by rcases q with q | q; exact q.elim; have := q.1; omega)), qs, y, e1, e2, k.get e4 (hn _ (by omega))⟩
  case assign =>
    intro l x W K hK
    unfold mntV at hK ⊢
    simp only [List.setIfInBounds_toArray, List.set_cons_succ, List.set_cons_zero] at hK ⊢
    gi_wp2
    exact hK _ (Keep.alloc _ _ _) (heap_alloc_eq W _)
  case body =>
    rintro l' pre x W B hW hB hbx hpm
    unfold mntV
    simp only [List.setIfInBounds_toArray, List.set_cons_succ, List.set_cons_zero]
    have a0 := cell_blk hbx 0
    have a1 := cell_blk hbx 1
    have a2 := cell_blk hbx 2
    have b0 := cell_blk hW.box 0
    simp only [List.getElem?_toArray, List.getElem?_cons_zero, List.getElem?_cons_succ] at a0 a1 a2 b0
    have c4 := cell_blk hW.r4 0
    simp only [List.getElem?_toArray, List.getElem?_cons_zero, List.getElem?_cons_succ] at c4
    have f4 := free_blk hW.r4 0
    have D := Lib.hid (And.intro hW (And.intro hbx hB))
    clear hW hbx
    obtain ⟨xk, xt, xm, xn⟩ := x
    simp only at *
    have same : covAt n (xk, ⟨xt, xm, xn⟩) = false → roundC wL.heap.size (KpM (fun b => b = w.heap.size + 1) wL.heap.size (wL.heap.size + 2)) (CvI w n) (CvX w n) (pre ++ [(xk, ⟨xt, xm, xn⟩)]) W Exit.normal ⟨#[], []⟩ W := fun hf =>
      ⟨⟨Nat.le_refl _, fun _ _ _ hk _ => hk⟩, Keep.refl _ _, D.out.1.keep, D.out.1.box, D.out.1.r4, fun y hy => by
        rcases List.mem_append.1 hy with hy | hy
        · exact D.out.1.none y hy
        · rw [List.mem_singleton.1 hy]; exact hf⟩
    have HSM := Lib.hid same
    clear same
    by_cases h0 : 0 < xk
    · by_cases h1 : xn = n
      · have hyes := Lib.hid (show covAt n (xk, ⟨xt, xm, xn⟩) = true by unfold covAt; simp [h0, h1])
        have a2' : W.cell? ⟨B, 2, none⟩ = some (.int .i64 n) := by rw [a2, h1]
        clear a2 h1 HSM
        gi_wp2
        have k4 := Keep.setCell W ⟨w.heap.size + 1, 0, none⟩ (.bool true)
        have s4 := heap_setCell_eq (off := 0) (Value.bool true) D.out.1.r4
        refine ⟨⟨k4.size, fun b o hb hk _ => k4.get hk (fun q => by have q' : b = w.heap.size + 1 := q; omega)⟩, k4.mono (fun b q => .inl q), rfl, D.out.1.keep.trans k4 (fun b q => .inr (by have q' : b = w.heap.size + 1 := q; omega)), pre, _, rfl, hyes.out, ?_⟩
        simpa using s4
      · have hno := Lib.hid (show covAt n (xk, ⟨xt, xm, xn⟩) = false by unfold covAt; simp [h1])
        have g1 : (xn == n) = false := by simpa using h1
        gi_wp2
        exact HSM.out hno.out
    · have hno := Lib.hid (show covAt n (xk, ⟨xt, xm, xn⟩) = false by unfold covAt; simp [h0])
      gi_wp2
      exact HSM.out hno.out
  case done =>
    rintro D xs W hD rfl hW hK
    have c4 := cell_blk hW.r4 0
    simp only [List.getElem?_toArray, List.getElem?_cons_zero, List.getElem?_cons_succ] at c4
    have f4 := free_blk hW.r4 0
    have k4 := Keep.setCell W ⟨w.heap.size + 1, 0, none⟩ (.bool false)
    have s4 := heap_setCell_eq (off := 0) (Value.bool false) hW.r4
    have ho : V.covered n = false := by
      unfold MountV.covered
      rw [List.any_eq_false]
      intro y hy
      have := hW.none y hy
      unfold covAt at this
      rw [this]; simp
    have D2 := Lib.hid (And.intro (k4.get hK (fun q => by have q' : D = w.heap.size + 1 := q; omega)) (And.intro (hW.keep.trans k4 (fun b q => .inr (by have q' : b = w.heap.size + 1 := q; omega))) (And.intro s4 ho)))
    clear hW hK k4 s4 ho
    go_wp2
    refine leaves_mark D2.out.1 fun w' k' => ⟨_, cov_res (k'.get (by simpa using D2.out.2.2.1) (fun q => by have q' : w.heap.size + 1 = D := q; omega)) rfl, ?_⟩
    rw [D2.out.2.2.2]
    exact ⟨rfl, D2.out.2.1.trans k' (fun b q => .inr (by have q' : b = D := q; omega))⟩
  case stop =>
    rintro D c pre W hD hpre hX hK
    obtain ⟨qs, y, rfl, e2, e4⟩ := hX.ex
    obtain rfl := hX.ret
    have ho : V.covered n = true := by
      unfold MountV.covered
      rw [List.any_eq_true]
      exact ⟨y, hpre.mem (by simp), e2⟩
    have D2 := Lib.hid (And.intro hK (And.intro hX.keep (And.intro e4 ho)))
    clear hX hK e2 e4 ho hpre
    go_wp2
    refine leaves_mark D2.out.1 fun w' k' => ⟨_, cov_res (k'.get D2.out.2.2.1 (fun q => by have q' : w.heap.size + 1 = D := q; omega)) rfl, ?_⟩
    rw [D2.out.2.2.2]
    exact ⟨rfl, D2.out.2.1.trans k' (fun b q => .inr (by have q' : b = D := q; omega))⟩

end Go.Proofs.Ytemoickagefjmaa
