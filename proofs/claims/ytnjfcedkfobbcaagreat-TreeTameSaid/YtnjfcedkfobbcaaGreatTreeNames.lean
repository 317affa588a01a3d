/-
  A Dir's names, as a row.
-/
import Derived.Test.YtnjfcedkfobbcaaGreatTreeOrd
import Derived.Test.YtnjfcedkfobbcaaGreatFresh
import Derived.Outline
namespace Go.Proofs.YtnjfcedkfobbcaaGreat
open Go Go.RowKit Go.Shelf
set_option linter.unusedSectionVars false
set_option linter.unusedSimpArgs false
set_option linter.unusedVariables false
set_option maxRecDepth 100000
attribute [local go_sem] Oper.semAt_some

/-- Names on its way. -/
structure NaI (w : World) (M : Nat) (pre : List ByteArray) (U : World) : Prop where
  keep : Keep w U (fun _ => False)
  row : ∃ v, U.heap[w.heap.size]? = some (.cells #[v] 61 (0, 0)) ∧ U.ownsRow 0 9 1 v pre.length (pre.map Value.string) ∧ ∀ b, v.ownBlock = some b → M ≤ b ∧ w.heap.size + 2 ≤ b

/-- The names that are told of a number. -/
def TreeV.namesAt (T : TreeV) (d : Int) : List ByteArray := match T.dir d with | none => [] | some x => sortedN x.names

set_option maxHeartbeats 4000000 in
theorem tnames_c {w : World} {tb : Nat} {s : TShape} {T : TreeV} (h : TreeIn w tb s T) (hsm : T.small 1000000) (d : Int) :
    Calls Tryz.prog 46 #[.pointer (some ⟨tb, 0, none⟩), .int .i64 d] w fun e w' => ∃ v, e = .returned v ∧ w'.ownsRow 0 9 1 v (T.namesAt d).length ((T.namesAt d).map Value.string) ∧ Keep w w' (fun _ => False) ∧ ∀ b, v.ownBlock = some b → w.heap.size ≤ b := by
  have hd := tdir_c h d
  unfold TreeV.namesAt
  cases hx : T.dir d with
  | none =>
    unfold TreeV.isDir at hd
    rw [hx] at hd
    simp only [Option.isSome_none, Bool.false_eq_true, if_false] at hd
    clear h hx hsm
    go_enter Tryz.func46, Tryz.ntmps46
    go_wp2_with (
      go_at_call 54
      refine hd.mono ?_
      rintro e w1 ⟨rfl, rfl⟩
      clear hd)
    go_ret
    exact ⟨_, rfl, rows_nil _ _ _, Keep.refl _ _, fun b q => by simp [Value.ownBlock] at q⟩
  | some x =>
    unfold TreeV.isDir at hd
    rw [hx] at hd
    simp only [Option.isSome_some, if_true] at hd
    obtain ⟨hg, hk⟩ := TreeV.dir_some hx
    have c1 := (h.cells hg).names
    unfold namesB at c1
    rw [if_pos hk] at c1
    have hM := h.names_at hg hk
    have hl := (hsm.node hg).2.2
    have l1 := h.lt _ _ (h.tnode hg)
    have l2 := h.lt _ _ (h.tnames hg hk)
    generalize s.na d = nb at *
    generalize s.nm d = mb at *
    dsimp only
    obtain ⟨L, hL⟩ : ∃ L, L = x.names := ⟨_, rfl⟩
    rw [← hL] at hM hl ⊢
    have H := Lib.hid (And.intro c1 (And.intro hM (And.intro hl (And.intro l1 l2))))
    clear h hx hsm hg hk c1 hM hl l1 l2 hL
    refine calls_marks Tryz.func46 rfl ?_
    simp only [Tryz.ntmps46, List.size_toArray, List.length_cons, List.length_nil, Nat.reduceAdd, Nat.reduceSub, Array.replicate_succ, Array.replicate_zero, List.push_toArray, List.append_toArray, List.nil_append, List.cons_append]
    go_wp2_with (first
      | (go_at_call 54
         refine hd.mono ?_
         rintro e w1 ⟨rfl, rfl⟩
         clear hd)
      | (go_at_call 86
         refine (tord_c _ _).mono ?_
         rintro e w11 ⟨rfl, rfl⟩))
    obtain ⟨wL, hwL⟩ : ∃ wL, wL = (w.alloc (.cells #[.slice none 0 0] 61)).alloc (.cells #[.pointer (some ⟨nb, 0, none⟩)] 50) := ⟨_, rfl⟩
    have W0 : _ := boxes2 w (.cells #[.slice none 0 0] 61) (.cells #[.pointer (some ⟨nb, 0, none⟩)] 50)
    rw [← hwL] at W0
    have HW := Lib.hid W0
    have hz1 : wL.heap.size ≤ w.heap.size + 2 := by have := W0.2.2.2; omega
    have hz2 : w.heap.size + 2 ≤ wL.heap.size := by have := W0.2.2.2; omega
    clear W0
    rw [← hwL]
    clear hwL
    have hI0 : ∀ M, NaI w M [] wL := fun M => ⟨HW.out.1, .slice none 0 0, HW.out.2.1, rows_nil _ _ _, fun b q => by simp [Value.ownBlock] at q⟩
    have HI0 := Lib.hid hI0
    clear hI0
    refine wp_rangeE (α := ByteArray) (enc := encN) (X := fun _ _ => False) (Kp := KpN (fun b => b = w.heap.size) wL.heap.size) (S := fun xs => xs = sortedN L) (Sp := fun pre => pre <+: sortedN L)
      (gf := 100) (lb := #[.pointer (some ⟨w.heap.size + 1, 0, none⟩)]) rfl (enters_of Tryz.func100 (by kernel_rfl) rfl)
      (fun l J Jx W hW hJ hJx hY h0 => tord1_in l (w.heap.size + 1) nb mb _ L wL.heap.size (fun b q => ⟨by omega, by have := H.out.2.2.2.1; omega, by have := H.out.2.2.2.2; omega⟩) ⟨by omega, by omega⟩ (by have := H.out.2.2.2; omega) (by have := H.out.2.2.1; omega) J Jx W hW.size hJ (fun M pre x U => hY M pre x U) ((Keep.of_below hW).get HW.out.2.2.1 (by omega)) ((Keep.of_below hW).cell (HW.out.1.cell H.out.1 (fun q => q)) (by have := H.out.2.2.2.1; omega)) ((H.out.2.1.keep HW.out.1 (fun q => q)).keep (Keep.of_below hW) (by have := H.out.2.2.2.2; omega)) h0)
      (fun b q => q.elim) (fun h k => KpN.trans h k) (fun M W l o o' hl ho hc hw => (keep_of_grown (grownBy_putObj' W l o')).mono fun b e => .inr (.inl (by simp only [Option.some.injEq] at e; omega)))
      (fun x => rfl) (fun h => h.mono fun _ q => q.elim) (fun x => none)
      (fun x B t => (t.setIfInBounds 15 (.string x)).setIfInBounds 7 (.string x))
      (fun x t => t.setIfInBounds 15 (.string x)) (fun x t => zip_one _ _ t)
      (NaI w) (fun _ _ _ _ => False) ?abide ?abidex HI0.out ?assign ?body ?done ?stop
    case abide =>
      intro M pre A1 A2 hA k
      have hn : ∀ b, b < wL.heap.size → ¬ Turns wL.heap.size (fun _ => False) A1 b := fun b hb q => by
        rcases q with q | q
        · exact q
        · have := q.1; omega
      obtain ⟨v, v1, v2, v3⟩ := hA.row
      refine ⟨hA.keep.trans k (fun b q => .inr (by rcases q with q | q; exact q.elim; have := q.1; omega)), v, k.get v1 (hn _ (by omega)), rows_keep v2 k (fun b q z => ?_), v3⟩
      rcases z with z | z
      · exact z
      · obtain ⟨c, t, f, hb⟩ := s_own_is v2 q
        exact not_cells hb z.2
    case abidex => exact fun M c s A1 A2 hA k => hA
    case assign =>
      intro l x W K hK
      simp only [List.setIfInBounds_toArray, List.set_cons_succ, List.set_cons_zero] at hK ⊢
      gi_wp2
      exact hK _ (Keep.refl _ _) (fun o ho => by cases ho)
    case body =>
      rintro l' M pre x W B hW hM0 hMB hBW - hpm
      simp only [List.setIfInBounds_toArray, List.set_cons_succ, List.set_cons_zero]
      obtain ⟨v, v1, v2, v3⟩ := hW.row
      obtain ⟨sa, cap, rfl, hcap⟩ := rows_val2 v2
      have c1 := cell_blk v1 0
      simp only [List.getElem?_toArray, List.getElem?_cons_zero, List.getElem?_cons_succ] at c1
      have f1 := free_blk v1 0
      have D := Lib.hid (And.intro hW (And.intro v1 (And.intro v2 v3)))
      generalize hln : pre.length = k at *
      have HK := Lib.hid hln
      clear hW v1 v2 v3 hln
      obtain ⟨ti, tz, ti1, ti2, ti3, ti4, ti5⟩ := s_kt_info
      have HJ := Lib.hid (And.intro ti1 (And.intro ti2 (And.intro ti3 (And.intro ti4 ti5))))
      clear ti1 ti2 ti3 ti4 ti5
      gi_wp2_with (
        gi_at_builtin
        refine law_pushIn rfl _ _ _ rfl Tryz.underlying61 HJ.out.1 HJ.out.2.1 HJ.out.2.2.1 HJ.out.2.2.2.1 HJ.out.2.2.2.2 D.out.2.2.1 rfl (.string x) rfl rfl rfl (by omega) ?_
        intro a8 cap8 w8 q1 q2 q3
        have hnb : ¬ (Value.slice sa k cap).ownBlock = some w.heap.size := fun q => by have := D.out.2.2.2 _ q; omega
        have b8 := q2.get D.out.2.1 hnb
        have d1 : w8.cell? ⟨w.heap.size, 0, none⟩ = some (.slice sa k cap) := by rw [cell_blk b8]; rfl
        have d2 : w8.frozen? ⟨w.heap.size, 0, none⟩ = false := free_blk b8 _
        have N := Lib.hid (And.intro q1 (And.intro q2 (And.intro q3 b8)))
        clear q1 q2 q3 hnb b8)
      have k5 := Keep.setCell w8 ⟨w.heap.size, 0, none⟩ (.slice a8 (k + 1) cap8)
      have kk : Keep W (w8.setCell ⟨w.heap.size, 0, none⟩ (.slice a8 (k + 1) cap8)) (fun b => (Value.slice sa k cap).ownBlock = some b ∨ b = w.heap.size) := (N.out.2.1.mono (fun b q => .inl q)).trans k5 (fun b q => .inl (.inr q))
      have hcel : ∀ b, ((Value.slice sa k cap).ownBlock = some b ∨ b = w.heap.size) → ∀ o, W.heap[b]? = some o → o.isCells = true := fun b q o ho => by
        rcases q with q | q
        · obtain ⟨c, t, f, hb⟩ := s_own_is D.out.2.2.1 q
          rw [hb] at ho; cases ho; rfl
        · subst q
          rw [D.out.2.1] at ho; cases ho; rfl
      refine ⟨s_keepsFrom_cells kk hcel, kk.mono (fun b q => ?_), D.out.1.keep.trans kk (fun b q => .inr ?_), .slice a8 (k + 1) cap8, heap_setCell_eq (.slice a8 (k + 1) cap8) (off := 0) N.out.2.2.2, ?_, fun b q => ?_⟩
      · rcases q with q | q
        · exact .inr (.inr (D.out.2.2.2 b q).1)
        · exact .inl q
      · rcases q with q | q
        · have := D.out.2.2.2 b q; omega
        · omega
      · have hr := rows_keep N.out.1 k5 (fun b q z => by
          have hz : b = w.heap.size := z
          rcases N.out.2.2.1 b q with y | y
          · have := D.out.2.2.2 b y; omega
          · have := lt_of_blk D.out.2.1; omega)
        rw [List.length_append, List.length_singleton, HK.out, List.map_append]
        exact hr
      · rcases N.out.2.2.1 b q with y | y
        · exact D.out.2.2.2 b y
        · omega
    case done =>
      rintro D M xs W hD rfl hW hK
      obtain ⟨v, v1, v2, v3⟩ := hW.row
      obtain ⟨sa, cap, rfl, hcap⟩ := rows_val2 v2
      have c1 := cell_blk v1 0
      simp only [List.getElem?_toArray, List.getElem?_cons_zero, List.getElem?_cons_succ] at c1
      have D2 := Lib.hid (And.intro hW.keep (And.intro hK (And.intro v2 v3)))
      generalize hln : (sortedN L).length = k at *
      clear hW hK v1 v2 v3 hcap
      go_wp2
      refine leaves_mark D2.out.2.1 fun w' k' => ⟨.slice sa k cap, by simp [results, Tryz.results46, go_sem], _, rfl, ?_⟩
      have hn : ∀ b, (Value.slice sa k cap).ownBlock = some b → ¬ b = D := fun b q z => by
        obtain ⟨c, t, f, hb⟩ := s_own_is D2.out.2.2.1 q
        rw [z, D2.out.2.1] at hb
        cases hb
      refine ⟨by rw [hln]; exact rows_keep D2.out.2.2.1 k' hn, D2.out.1.trans k' (fun b q => .inr (by have q' : b = D := q; omega)), fun b q => by have := D2.out.2.2.2 b q; omega⟩
    case stop =>
      rintro D M c pre W hD _ h
      exact h.elim

end Go.Proofs.YtnjfcedkfobbcaaGreat
