/-
  The mounts that lie at places of one; all mounts.
-/
import Derived.Test.YtemoickagefjmaaMountOrdE
import Derived.Test.YtemoickagefjmaaMountOver
namespace Go.Proofs.Ytemoickagefjmaa
open Go Go.RowKit Go.Shelf
set_option linter.unusedSectionVars false
set_option linter.unusedSimpArgs false
set_option linter.unusedVariables false
set_option maxRecDepth 100000
attribute [local go_sem] Oper.semAt_some

def abv (m : Int) (L : List Mnt) : List Int := (L.filter fun x => decide (0 < x.1) && decide (x.2.am = m)).map Prod.fst
theorem abv_snoc (m : Int) (L : List Mnt) (x : Mnt) : abv m (L ++ [x]) = abv m L ++ if 0 < x.1 ∧ x.2.am = m then [x.1] else [] := by
  unfold abv
  rw [List.filter_append, List.map_append]
  congr 1
  by_cases h : 0 < x.1 ∧ x.2.am = m
  · rw [if_pos h]; simp [List.filter_cons, h.1, h.2]
  · rw [if_neg h]
    have : (decide (0 < x.1) && decide (x.2.am = m)) = false := by
      simp only [Bool.and_eq_false_iff, decide_eq_false_iff_not]
      by_cases q : 0 < x.1
      · exact .inr (fun z => h ⟨q, z⟩)
      · exact .inl q
    simp [List.filter_cons, this]
theorem abv_len (m : Int) (L : List Mnt) : (abv m L).length ≤ L.length := by
  unfold abv
  rw [List.length_map]
  exact List.length_filter_le _ _

/-- Above on its way. -/
structure AbI (w : World) (m : Int) (M : Nat) (pre : List Mnt) (U : World) : Prop where
  keep : Keep w U (fun _ => False)
  box : U.heap[w.heap.size]? = some (.cells #[.int .i64 m] 3 (0, 0))
  row : ∃ v, U.heap[w.heap.size + 1]? = some (.cells #[v] 59 (0, 0)) ∧ U.ownsRow 0 3 1 v (abv m pre).length ((abv m pre).map (Value.int .i64)) ∧ ∀ b, v.ownBlock = some b → M ≤ b ∧ w.heap.size + 3 ≤ b

theorem int_info : ∃ i z, Try.prog.info? 3 = some i ∧ i.zero = some z ∧ i.size = 1 ∧ i.bytes ≤ 64 ∧ z.cells.size = 1 := m_kt_info

set_option maxHeartbeats 4000000 in
theorem mabv_c {w : World} {tb : Nat} {S : Nat → Prop} {V : MountV} (h : TableAt w tb S V) (m : Int) :
    Calls Try.prog 39 #[.pointer (some ⟨tb, 0, none⟩), .int .i64 m] w fun e w' => ∃ v, e = .returned v ∧ w'.ownsRow 0 3 1 v (V.above m).length ((V.above m).map (Value.int .i64)) ∧ Keep w w' (fun _ => False) ∧ ∀ b, v.ownBlock = some b → w.heap.size ≤ b := by
  have H := Lib.hid h
  clear h
  refine calls_marks Try.func39 rfl ?_
  simp only [Try.ntmps39, List.size_toArray, List.length_cons, List.length_nil, Nat.reduceAdd, Nat.reduceSub, Array.replicate_succ, Array.replicate_zero, List.push_toArray, List.append_toArray, List.nil_append, List.cons_append]
  go_wp2_with (
    go_at_call 58
    refine (mord_c _ _).mono ?_
    rintro e w11 ⟨rfl, rfl⟩)
  obtain ⟨wL, hwL⟩ : ∃ wL, wL = ((w.alloc (.cells #[.int .i64 m] 3)).alloc (.cells #[.slice none 0 0] 59)).alloc (.cells #[.pointer (some ⟨tb, 0, none⟩)] 50) := ⟨_, rfl⟩
  have W0 : _ := boxes3 w (.cells #[.int .i64 m] 3) (.cells #[.slice none 0 0] 59) (.cells #[.pointer (some ⟨tb, 0, none⟩)] 50)
  rw [← hwL] at W0
  have HW := Lib.hid W0
  have hz1 : wL.heap.size ≤ w.heap.size + 3 := by have := W0.2.2.2.2; omega
  have hz2 : w.heap.size + 3 ≤ wL.heap.size := by have := W0.2.2.2.2; omega
  clear W0
  rw [← hwL]
  clear hwL
  have hSlt := H.out.lt
  have hI0 : ∀ M, AbI w m M [] wL := fun M => ⟨HW.out.1, HW.out.2.1, .slice none 0 0, HW.out.2.2.1, rows_nil _ _ _, fun b q => by simp [Value.ownBlock] at q⟩
  have HI0 := Lib.hid hI0
  have HS := Lib.hid hSlt
  have H8 := Lib.hid H.out.ok.most
  clear hI0 hSlt
  refine wp_rangeE (α := Mnt) (enc := encM) (X := fun _ _ => False) (Kp := KpE (fun b => b = w.heap.size + 1) wL.heap.size) (S := fun xs => xs = V.live) (Sp := fun pre => pre <+: V.live)
    (gf := 64) (lb := #[.pointer (some ⟨w.heap.size + 1 + 1, 0, none⟩)]) rfl (enters_of Try.func64 (by kernel_rfl) rfl)
    (fun l J Jx W hW hJ hJx hY h0 => mord1E_in l (w.heap.size + 1 + 1) tb S _ V wL.heap.size (fun b q => ⟨by omega, fun z => by have := HS.out b z; omega⟩) ⟨by omega, by omega⟩ (fun b q => by have := HS.out b q; omega) J Jx W hW.size hJ (fun M pre x U => hY M pre x U) ((Keep.of_below hW).get HW.out.2.2.2.1 (by omega)) ((H.out.aside HW.out.1).keep (Keep.of_below hW) (fun b q z => by have := HS.out b q; omega)) h0)
    (fun b q => q.elim) (fun h k => KpE.trans h k) (fun M W l o o' hl ho hc hw => (keep_of_grown (grownBy_putObj' W l o')).mono fun b e => .inr (.inl (by simp only [Option.some.injEq] at e; omega)))
    (fun x => rfl) (fun h => h.mono fun _ q => q.elim) (fun x => some (.cells #[.int .i64 x.2.top, .int .i64 x.2.am, .int .i64 x.2.an] 95 (0, 0)))
    (fun x B t => (((t.setIfInBounds 10 (.int .i64 x.1)).setIfInBounds 11 (mntV x.2)).setIfInBounds 6 (.int .i64 x.1)).setIfInBounds 7 (.pointer (some ⟨B, 0, none⟩)))
    (fun x t => (t.setIfInBounds 10 (.int .i64 x.1)).setIfInBounds 11 (mntV x.2)) (fun x t => zip_two _ _ _ _ t)
    (AbI w m) (fun _ _ _ _ => False) ?abide ?abidex HI0.out ?assign ?body ?done ?stop
  case abide =>
    intro M pre A1 A2 hA k
    have hn : ∀ b, b < wL.heap.size → ¬ Turns wL.heap.size (fun _ => False) A1 b := fun b hb q => by
      rcases q with q | q
      · exact q
      · have := q.1; omega
    obtain ⟨v, v1, v2, v3⟩ := hA.row
    refine ⟨hA.keep.trans k (fun b q => .inr (by rcases q with q | q; exact q.elim; have := q.1; omega)), k.get hA.box (hn _ (by omega)), v, k.get v1 (hn _ (by omega)), rows_keep v2 k (fun b q z => ?_), v3⟩
    rcases z with z | z
    · exact z
    · obtain ⟨c, t, f, hb⟩ := m_own_is v2 q
      exact not_cells hb z.2
  case abidex => exact fun M c s A1 A2 hA k => hA
  case assign =>
    intro l x W K hK
    unfold mntV at hK ⊢
    simp only [List.setIfInBounds_toArray, List.set_cons_succ, List.set_cons_zero] at hK ⊢
    gi_wp2
    exact hK _ (Keep.alloc _ _ _) (fun o ho => by cases ho; exact heap_alloc_eq W _)
  case body =>
    rintro l' M pre x W B hW hM0 hMB hBW hbx hpm
    have hbx := hbx _ rfl
    unfold mntV
    simp only [List.setIfInBounds_toArray, List.set_cons_succ, List.set_cons_zero]
    have a0 := cell_blk hbx 0
    have a1 := cell_blk hbx 1
    have a2 := cell_blk hbx 2
    have b0 := cell_blk hW.box 0
    simp only [List.getElem?_toArray, List.getElem?_cons_zero, List.getElem?_cons_succ] at a0 a1 a2 b0
    obtain ⟨v, v1, v2, v3⟩ := hW.row
    obtain ⟨sa, cap, rfl, hcap⟩ := rows_val2 v2
    have c1 := cell_blk v1 0
    simp only [List.getElem?_toArray, List.getElem?_cons_zero, List.getElem?_cons_succ] at c1
    have f1 := free_blk v1 0
    have hal := abv_len m pre
    have D := Lib.hid (And.intro hW (And.intro hbx (And.intro v1 (And.intro v2 v3))))
    generalize hln : (abv m pre).length = k at *
    have HK := Lib.hid hln
    clear hW hbx v1 v2 v3 hln
    obtain ⟨xk, xt, xm, xn⟩ := x
    simp only at *
    have same : ¬ (0 < xk ∧ xm = m) → roundC wL.heap.size (KpE (fun b => b = w.heap.size + 1) wL.heap.size M (wL.heap.size + 2)) (AbI w m M) (fun _ _ _ => False) (pre ++ [(xk, ⟨xt, xm, xn⟩)]) W Exit.normal ⟨#[], []⟩ W := fun hf =>
      ⟨⟨Nat.le_refl _, fun _ _ _ hk _ => hk⟩, Keep.refl _ _, D.out.1.keep, D.out.1.box, by
        rw [abv_snoc, if_neg hf, List.append_nil]
        exact D.out.1.row⟩
    have HSM := Lib.hid same
    clear same
    by_cases h0 : 0 < xk
    · by_cases h1 : xm = m
      · have a1' : W.cell? ⟨B, 1, none⟩ = some (.int .i64 m) := by rw [a1, h1]
        have HX := Lib.hid (And.intro h0 h1)
        clear a1 h1 HSM
        obtain ⟨ti, tz, ti1, ti2, ti3, ti4, ti5⟩ := int_info
        have HJ := Lib.hid (And.intro ti1 (And.intro ti2 (And.intro ti3 (And.intro ti4 ti5))))
        clear ti1 ti2 ti3 ti4 ti5
        gi_wp2_with (
          gi_at_builtin
          refine law_pushIn rfl _ _ _ rfl Try.underlying59 HJ.out.1 HJ.out.2.1 HJ.out.2.2.1 HJ.out.2.2.2.1 HJ.out.2.2.2.2 D.out.2.2.2.1 rfl (.int .i64 xk) rfl rfl rfl (by omega) ?_
          intro a8 cap8 w8 q1 q2 q3
          have hnb : ¬ (Value.slice sa k cap).ownBlock = some (w.heap.size + 1) := fun q => by have := D.out.2.2.2.2 _ q; omega
          have b8 := q2.get D.out.2.2.1 hnb
          have d1 : w8.cell? ⟨w.heap.size + 1, 0, none⟩ = some (.slice sa k cap) := by rw [cell_blk b8]; rfl
          have d2 : w8.frozen? ⟨w.heap.size + 1, 0, none⟩ = false := free_blk b8 _
          have N := Lib.hid (And.intro q1 (And.intro q2 (And.intro q3 b8)))
          clear q1 q2 q3 hnb b8)
        have k5 := Keep.setCell w8 ⟨w.heap.size + 1, 0, none⟩ (.slice a8 (k + 1) cap8)
        have kk : Keep W (w8.setCell ⟨w.heap.size + 1, 0, none⟩ (.slice a8 (k + 1) cap8)) (fun b => (Value.slice sa k cap).ownBlock = some b ∨ b = w.heap.size + 1) := (N.out.2.1.mono (fun b q => .inl q)).trans k5 (fun b q => .inl (.inr q))
        have hcel : ∀ b, ((Value.slice sa k cap).ownBlock = some b ∨ b = w.heap.size + 1) → ∀ o, W.heap[b]? = some o → o.isCells = true := fun b q o ho => by
          rcases q with q | q
          · obtain ⟨c, t, f, hb⟩ := m_own_is D.out.2.2.2.1 q
            rw [hb] at ho; cases ho; rfl
          · subst q
            rw [D.out.2.2.1] at ho; cases ho; rfl
        refine ⟨m_keepsFrom_cells kk hcel, kk.mono (fun b q => ?_), D.out.1.keep.trans kk (fun b q => .inr ?_), kk.get D.out.1.box (fun q => ?_), .slice a8 (k + 1) cap8, heap_setCell_eq (.slice a8 (k + 1) cap8) (off := 0) N.out.2.2.2, ?_, fun b q => ?_⟩
        · rcases q with q | q
          · exact .inr (.inr (D.out.2.2.2.2 b q).1)
          · exact .inl q
        · rcases q with q | q
          · have := D.out.2.2.2.2 b q; omega
          · omega
        · rcases q with q | q
          · have := D.out.2.2.2.2 _ q; omega
          · omega
        · have hr := rows_keep N.out.1 k5 (fun b q z => by
            have hz : b = w.heap.size + 1 := z
            rcases N.out.2.2.1 b q with y | y
            · have := D.out.2.2.2.2 b y; omega
            · have := lt_of_blk D.out.2.2.1; omega)
          rw [abv_snoc, if_pos (show 0 < xk ∧ xm = m from HX.out), List.length_append, List.length_singleton, HK.out, List.map_append]
          exact hr
        · rcases N.out.2.2.1 b q with y | y
          · exact D.out.2.2.2.2 b y
          · omega
      · have g1 : (xm == m) = false := by simpa using h1
        have hno := Lib.hid (show ¬ (0 < xk ∧ xm = m) from fun q => h1 q.2)
        clear h1
        gi_wp2
        exact HSM.out hno.out
    · have hno := Lib.hid (show ¬ (0 < xk ∧ xm = m) from fun q => h0 q.1)
      gi_wp2
      exact HSM.out hno.out
  case done =>
    rintro D M xs W hD rfl hW hK
    obtain ⟨v, v1, v2, v3⟩ := hW.row
    obtain ⟨sa, cap, rfl, hcap⟩ := rows_val2 v2
    have c1 := cell_blk v1 0
    simp only [List.getElem?_toArray, List.getElem?_cons_zero, List.getElem?_cons_succ] at c1
    have D2 := Lib.hid (And.intro hW.keep (And.intro hK (And.intro v2 v3)))
    have ev : abv m V.live = V.above m := rfl
    rw [ev] at D2 c1 hcap
    generalize hln : (V.above m).length = k at *
    clear hW hK v1 v2 v3 ev hcap
    go_wp2
    refine leaves_mark D2.out.2.1 fun w' k' => ⟨.slice sa k cap, by simp [results, Try.results39, go_sem], _, rfl, ?_⟩
    rw [hln]
    have hn : ∀ b, (Value.slice sa k cap).ownBlock = some b → ¬ b = D := fun b q z => by
      obtain ⟨c, t, f, hb⟩ := m_own_is D2.out.2.2.1 q
      rw [z, D2.out.2.1] at hb
      cases hb
    exact ⟨rows_keep D2.out.2.2.1 k' hn, D2.out.1.trans k' (fun b q => .inr (by have q' : b = D := q; omega)), fun b q => by have := D2.out.2.2.2 b q; omega⟩
  case stop =>
    rintro D M c pre W hD _ h
    exact h.elim

end Go.Proofs.Ytemoickagefjmaa
