/-
  The mount that lies at a place.
-/
import Derived.Test.YtemoickagefjmaaMountOrd
namespace Go.Proofs.Ytemoickagefjmaa
open Go Go.RowKit Go.Shelf
set_option linter.unusedSectionVars false
set_option linter.unusedSimpArgs false
set_option linter.unusedVariables false
set_option maxRecDepth 100000
attribute [local go_sem] Oper.semAt_some

theorem over_res {W : World} {b4 b5 : Nat} {k : Int} {ok : Bool} {T : Array Value} (z4 : W.heap[b4]? = some (.cells #[.int .i64 k] 3 (0, 0))) (z5 : W.heap[b5]? = some (.cells #[.bool ok] 4 (0, 0))) (h4 : T.getD 4 undef = .pointer (some ⟨b4, 0, none⟩)) (h5 : T.getD 5 undef = .pointer (some ⟨b5, 0, none⟩)) :
    (results Try.f55 T).run Try.prog W = .ok (.tuple #[.int .i64 k, .bool ok]) W := by
  have y4 : W.cell? ⟨b4, 0, none⟩ = some (.int .i64 k) := by rw [cell_blk z4]; rfl
  have y5 : W.cell? ⟨b5, 0, none⟩ = some (.bool ok) := by rw [cell_blk z5]; rfl
  have h4' : T[4]?.getD undef = .pointer (some ⟨b4, 0, none⟩) := by simpa using h4
  have h5' : T[5]?.getD undef = .pointer (some ⟨b5, 0, none⟩) := by simpa using h5
  simp [results, Try.results55, go_sem, h4', h5', y4, y5]

/-- What over answers. -/
def overA (V : MountV) (m n : Int) : Int × Bool := match V.over m n with | some x => (x.1, true) | none => (0, false)

/-- over on its way. -/
structure OvI (w : World) (m n : Int) (pre : List Mnt) (U : World) : Prop where
  keep : Keep w U (fun _ => False)
  box : U.heap[w.heap.size]? = some (.cells #[.int .i64 m, .int .i64 n] 49 (0, 0))
  r4 : U.heap[w.heap.size + 1]? = some (.cells #[.int .i64 0] 3 (0, 0))
  r5 : U.heap[w.heap.size + 1 + 1]? = some (.cells #[.bool false] 4 (0, 0))
  none : ∀ y ∈ pre, laidAt m n y = false
structure OvX (w : World) (m n : Int) (c : Code) (pre : List Mnt) (U : World) : Prop where
  ret : c = .ret
  keep : Keep w U (fun _ => False)
  ex : ∃ qs y, pre = qs ++ [y] ∧ laidAt m n y = true ∧ (∀ z ∈ qs, laidAt m n z = false) ∧ U.heap[w.heap.size + 1]? = some (.cells #[.int .i64 y.1] 3 (0, 0)) ∧ U.heap[w.heap.size + 1 + 1]? = some (.cells #[.bool true] 4 (0, 0))

theorem find_pre {α : Type} {p : α → Bool} {l qs : List α} {y : α} (h : qs ++ [y] <+: l) (hy : p y = true) (hq : ∀ z ∈ qs, p z = false) : l.find? p = some y := by
  obtain ⟨r, rfl⟩ := h
  rw [List.append_assoc, List.find?_append]
  have : qs.find? p = Option.none := by
    rw [List.find?_eq_none]
    intro z hz
    simp [hq z hz]
  rw [this]
  simp [hy]

set_option maxHeartbeats 4000000 in
theorem mover_c {w : World} {tb : Nat} {S : Nat → Prop} {V : MountV} (h : TableAt w tb S V) (m n : Int) :
    Calls Try.prog 55 #[.pointer (some ⟨tb, 0, none⟩), .agg #[.int .i64 m, .int .i64 n]] w fun e w' => e = .returned (.tuple #[.int .i64 (overA V m n).1, .bool (overA V m n).2]) ∧ Keep w w' (fun _ => False) := by
  have H := Lib.hid h
  clear h
  refine calls_marks Try.func55 rfl ?_
  simp only [Try.ntmps55, List.size_toArray, List.length_cons, List.length_nil, Nat.reduceAdd, Nat.reduceSub, Array.replicate_succ, Array.replicate_zero, List.push_toArray, List.append_toArray, List.nil_append, List.cons_append]
  go_wp2_with (
    go_at_call 58
    refine (mord_c _ _).mono ?_
    rintro e w11 ⟨rfl, rfl⟩)
  obtain ⟨wL, hwL⟩ : ∃ wL, wL = (((w.alloc (.cells #[.int .i64 m, .int .i64 n] 49)).alloc (.cells #[.int .i64 0] 3)).alloc (.cells #[.bool false] 4)).alloc (.cells #[.pointer (some ⟨tb, 0, none⟩)] 50) := ⟨_, rfl⟩
  have W0 : _ := boxes4 w (.cells #[.int .i64 m, .int .i64 n] 49) (.cells #[.int .i64 0] 3) (.cells #[.bool false] 4) (.cells #[.pointer (some ⟨tb, 0, none⟩)] 50)
  rw [← hwL] at W0
  have HW := Lib.hid W0
  have hz1 : wL.heap.size ≤ w.heap.size + 4 := by have := W0.2.2.2.2.2; omega
  have hz2 : w.heap.size + 4 ≤ wL.heap.size := by have := W0.2.2.2.2.2; omega
  clear W0
  rw [← hwL]
  clear hwL
  have htb := H.out.ex
  have hSlt := H.out.lt
  have hI0 : OvI w m n [] wL := ⟨HW.out.1, HW.out.2.1, HW.out.2.2.1, HW.out.2.2.2.1, fun y hy => by cases hy⟩
  have HI0 := Lib.hid hI0
  have HS := Lib.hid hSlt
  clear hI0 hSlt htb
  refine wp_rangeD (α := Mnt) (enc := encM) (X := fun _ _ => False) (ee := 0) (Kp := KpM (fun b => b = w.heap.size + 1 ∨ b = w.heap.size + 1 + 1) wL.heap.size) (S := fun xs => xs = V.live) (Sp := fun pre => pre <+: V.live)
    (gf := 64) (lb := #[.pointer (some ⟨w.heap.size + 1 + 1 + 1, 0, none⟩)]) rfl (enters_of Try.func64 (by kernel_rfl) rfl)
    (fun l J Jx W hW hJ hJx hY h0 => mord1_in l (w.heap.size + 1 + 1 + 1) tb S _ V wL.heap.size (fun b q => ⟨by rcases q with q | q <;> omega, fun z => by have := HS.out b z; rcases q with q | q <;> omega⟩) ⟨by omega, by omega⟩ (fun b q => by have := HS.out b q; omega) J Jx W hW.size hJ (fun pre x U => hY pre x U) ((Keep.of_below hW).get HW.out.2.2.2.2.1 (by omega)) ((H.out.aside HW.out.1).keep (Keep.of_below hW) (fun b q z => by have := HS.out b q; omega)) h0)
    (fun b q => q.elim) (fun h k => KpM.trans h k) (fun W l o o' hl ho hc hw => (keep_of_grown (grownBy_putObj' W l o')).mono fun b e => .inr (by simp only [Option.some.injEq] at e; omega))
    (fun x => rfl) (fun h => h.mono fun _ q => q.elim) (fun x => .cells #[.int .i64 x.2.top, .int .i64 x.2.am, .int .i64 x.2.an] 95 (0, 0))
    (fun x B t => (((t.setIfInBounds 10 (.int .i64 x.1)).setIfInBounds 11 (mntV x.2)).setIfInBounds 6 (.int .i64 x.1)).setIfInBounds 7 (.pointer (some ⟨B, 0, none⟩)))
    (fun x t => (t.setIfInBounds 10 (.int .i64 x.1)).setIfInBounds 11 (mntV x.2)) (fun x t => zip_two _ _ _ _ t)
    (OvI w m n) (OvX w m n) ?abide ?abidex HI0.out ?assign ?body ?done ?stop
  case abide =>
    intro pre A1 A2 hA k
    have hn : ∀ b, b < wL.heap.size → ¬ Turns wL.heap.size (fun _ => False) A1 b := fun b hb q => by
      rcases q with q | q
      · exact q
      · have := q.1; omega
    exact ⟨hA.keep.trans k (fun b q => .inr (by rcases q with q | q; exact q.elim; have := q.1; omega)), k.get hA.box (hn _ (by omega)), k.get hA.r4 (hn _ (by omega)), k.get hA.r5 (hn _ (by omega)), hA.none⟩
  case abidex =>
    intro c pre A1 A2 hA k
    have hn : ∀ b, b < wL.heap.size → ¬ Turns wL.heap.size (fun _ => False) A1 b := fun b hb q => by
      rcases q with q | q
      · exact q
      · have := q.1; omega
    obtain ⟨qs, y, e1, e2, e3, e4, e5⟩ := hA.ex
    exact ⟨hA.ret, hA.keep.trans k (fun b q => .inr (by rcases q with q | q; exact q.elim; have := q.1; omega)), qs, y, e1, e2, e3, k.get e4 (hn _ (by omega)), k.get e5 (hn _ (by omega))⟩
  case assign =>
    intro l x W K hK
    unfold mntV at hK ⊢
    simp only [List.setIfInBounds_toArray, List.set_cons_succ, List.set_cons_zero] at hK ⊢
    gi_wp2
    exact hK _ (Keep.alloc _ _ _) (heap_alloc_eq W _)
  case body =>
    rintro l' pre x W B hW hB hbx hpm
    unfold mntV
    simp only [List.setIfInBounds_toArray, List.set_cons_succ, List.set_cons_zero]
    have a0 := cell_blk hbx 0
    have a1 := cell_blk hbx 1
    have a2 := cell_blk hbx 2
    have b0 := cell_blk hW.box 0
    have b1 := cell_blk hW.box 1
    simp only [List.getElem?_toArray, List.getElem?_cons_zero, List.getElem?_cons_succ] at a0 a1 a2 b0 b1
    have c4 := cell_blk hW.r4 0
    have c5 := cell_blk hW.r5 0
    simp only [List.getElem?_toArray, List.getElem?_cons_zero, List.getElem?_cons_succ] at c4 c5
    have f4 := free_blk hW.r4 0
    have f5 := free_blk hW.r5 0
    have D := Lib.hid (And.intro hW (And.intro hbx hB))
    clear hW hbx
    obtain ⟨xk, xt, xm, xn⟩ := x
    simp only at *
    have same : laidAt m n (xk, ⟨xt, xm, xn⟩) = false → roundC wL.heap.size (KpM (fun b => b = w.heap.size + 1 ∨ b = w.heap.size + 1 + 1) wL.heap.size (wL.heap.size + 2)) (OvI w m n) (OvX w m n) (pre ++ [(xk, ⟨xt, xm, xn⟩)]) W Exit.normal ⟨#[], []⟩ W := fun hf =>
      ⟨⟨Nat.le_refl _, fun _ _ _ hk _ => hk⟩, Keep.refl _ _, D.out.1.keep, D.out.1.box, D.out.1.r4, D.out.1.r5, fun y hy => by
        rcases List.mem_append.1 hy with hy | hy
        · exact D.out.1.none y hy
        · rw [List.mem_singleton.1 hy]; exact hf⟩
    have HSM := Lib.hid same
    clear same
    by_cases h0 : 0 < xk
    · by_cases h1 : xm = m ∧ xn = n
      · have hyes := Lib.hid (show laidAt m n (xk, ⟨xt, xm, xn⟩) = true by unfold laidAt; simp [h0, h1.1, h1.2])
        obtain ⟨e1, e2⟩ := h1
        have a1' : W.cell? ⟨B, 1, none⟩ = some (.int .i64 m) := by rw [a1, e1]
        have a2' : W.cell? ⟨B, 2, none⟩ = some (.int .i64 n) := by rw [a2, e2]
        clear a1 a2 e1 e2 HSM
        gi_wp2
        have k4 := Keep.setCell W ⟨w.heap.size + 1, 0, none⟩ (.int .i64 xk)
        have s4 := heap_setCell_eq (off := 0) (Value.int .i64 xk) D.out.1.r4
        have s5 := k4.get D.out.1.r5 (fun q => by have q' : w.heap.size + 1 + 1 = w.heap.size + 1 := q; omega)
        have k5 := Keep.setCell (W.setCell ⟨w.heap.size + 1, 0, none⟩ (.int .i64 xk)) ⟨w.heap.size + 1 + 1, 0, none⟩ (.bool true)
        have u5 := heap_setCell_eq (off := 0) (Value.bool true) s5
        have u4 := k5.get s4 (fun q => by have q' : w.heap.size + 1 = w.heap.size + 1 + 1 := q; omega)
        have kk : Keep W ((W.setCell ⟨w.heap.size + 1, 0, none⟩ (.int .i64 xk)).setCell ⟨w.heap.size + 1 + 1, 0, none⟩ (.bool true)) (fun b => b = w.heap.size + 1 ∨ b = w.heap.size + 1 + 1) := (k4.mono (fun b q => .inl q)).trans k5 (fun b q => .inl (.inr q))
        refine ⟨⟨kk.size, fun b o hb hk _ => kk.get hk (fun q => by rcases q with q | q <;> omega)⟩, kk.mono (fun b q => .inl q), rfl, D.out.1.keep.trans kk (fun b q => .inr (by rcases q with q | q <;> omega)), pre, _, rfl, hyes.out, D.out.1.none, ?_, ?_⟩
        · simpa using u4
        · simpa using u5
      · have hno := Lib.hid (show laidAt m n (xk, ⟨xt, xm, xn⟩) = false by
          unfold laidAt
          simp only [Bool.and_eq_false_iff, decide_eq_false_iff_not]
          right
          by_cases q : xm = m
          · exact .inr (fun z => h1 ⟨q, z⟩)
          · exact .inl q)
        gi_wp2
        all_goals exact HSM.out hno.out
    · have hno := Lib.hid (show laidAt m n (xk, ⟨xt, xm, xn⟩) = false by unfold laidAt; simp [h0])
      gi_wp2
      exact HSM.out hno.out
  case done =>
    rintro D xs W hD rfl hW hK
    have c4 := cell_blk hW.r4 0
    have c5 := cell_blk hW.r5 0
    simp only [List.getElem?_toArray, List.getElem?_cons_zero, List.getElem?_cons_succ] at c4 c5
    have f4 := free_blk hW.r4 0
    have f5 := free_blk hW.r5 0
    have k4 := Keep.setCell W ⟨w.heap.size + 1, 0, none⟩ (.int .i64 0)
    have s4 := heap_setCell_eq (off := 0) (Value.int .i64 0) hW.r4
    have s5 := k4.get hW.r5 (fun q => by have q' : w.heap.size + 1 + 1 = w.heap.size + 1 := q; omega)
    have k5 := Keep.setCell (W.setCell ⟨w.heap.size + 1, 0, none⟩ (.int .i64 0)) ⟨w.heap.size + 1 + 1, 0, none⟩ (.bool false)
    have u5 := heap_setCell_eq (off := 0) (Value.bool false) s5
    have u4 := k5.get s4 (fun q => by have q' : w.heap.size + 1 = w.heap.size + 1 + 1 := q; omega)
    have kk : Keep W ((W.setCell ⟨w.heap.size + 1, 0, none⟩ (.int .i64 0)).setCell ⟨w.heap.size + 1 + 1, 0, none⟩ (.bool false)) (fun b => b = w.heap.size + 1 ∨ b = w.heap.size + 1 + 1) := (k4.mono (fun b q => .inl q)).trans k5 (fun b q => .inl (.inr q))
    have ho : overA V m n = (0, false) := by
      have : V.over m n = none := List.find?_eq_none.2 (fun y hy => by rw [hW.none y hy]; simp)
      unfold overA
      rw [this]
    have D2 := Lib.hid (And.intro (kk.get hK (fun q => by rcases q with q | q <;> omega)) (And.intro (hW.keep.trans kk (fun b q => .inr (by rcases q with q | q <;> omega))) (And.intro u4 (And.intro u5 ho))))
    clear hW hK k4 s4 s5 k5 u5 u4 kk ho
    go_wp2
    refine leaves_mark D2.out.1 fun w' k' => ⟨_, over_res (k'.get D2.out.2.2.1 (fun q => by have q' : w.heap.size + 1 = D := q; omega)) (k'.get D2.out.2.2.2.1 (fun q => by have q' : w.heap.size + 1 + 1 = D := q; omega)) rfl rfl, ?_⟩
    rw [D2.out.2.2.2.2]
    exact ⟨rfl, D2.out.2.1.trans k' (fun b q => .inr (by have q' : b = D := q; omega))⟩
  case stop =>
    rintro D c pre W hD hpre hX hK
    obtain ⟨qs, y, rfl, e2, e3, e4, e5⟩ := hX.ex
    obtain rfl := hX.ret
    have ho : overA V m n = (y.1, true) := by
      have : V.over m n = some y := find_pre hpre e2 e3
      unfold overA
      rw [this]
    have D2 := Lib.hid (And.intro hK (And.intro hX.keep (And.intro e4 (And.intro e5 ho))))
    clear hX hK e2 e3 e4 e5 ho hpre
    go_wp2
    refine leaves_mark D2.out.1 fun w' k' => ⟨_, over_res (k'.get D2.out.2.2.1 (fun q => by have q' : w.heap.size + 1 = D := q; omega)) (k'.get D2.out.2.2.2.1 (fun q => by have q' : w.heap.size + 1 + 1 = D := q; omega)) rfl rfl, ?_⟩
    rw [D2.out.2.2.2.2]
    exact ⟨rfl, D2.out.2.1.trans k' (fun b q => .inr (by have q' : b = D := q; omega))⟩

end Go.Proofs.Ytemoickagefjmaa
