/-
  The cache's Forget and Shrink.
-/
import Derived.Test.YtjicoebcmfnooaaDoorDOf
import Derived.Test.YtjicoebcmfnooaaDoorLruOrder0
namespace Go.Proofs.YtjicoebcmfnooaaDoor
open Go Go.RowKit Go.Shelf
set_option linter.unusedSectionVars false
set_option linter.unusedSimpArgs false
set_option linter.unusedVariables false
set_option maxRecDepth 100000
attribute [local go_sem] Oper.semAt_some

/-! ### plain laws -/

theorem foldl_adel {α : Type} (ks : List ByteArray) : ∀ (L : List (ByteArray × α)), (L.map Prod.fst).Nodup → ks.foldl adel L = L.filter (fun x => notIn ks x.1) := by
  induction ks with
  | nil => intro L _; symm; rw [List.foldl_nil, List.filter_eq_self]; intro x _; rfl
  | cons k r ih =>
    intro L hn
    have hdel : adel L k = L.filter (fun x => decide (x.1 ≠ k)) := by
      clear ih
      induction L with
      | nil => rfl
      | cons y s ih2 =>
        obtain ⟨a, u⟩ := y
        simp only [List.map_cons, List.nodup_cons] at hn
        simp only [adel, List.filter_cons]
        by_cases e : a = k
        · subst e
          simp only [if_true, ne_eq, not_true_eq_false, decide_false, Bool.false_eq_true, if_false]
          symm
          rw [List.filter_eq_self]
          intro z hz
          simp only [decide_eq_true_eq]
          exact fun q => hn.1 (by rw [← q]; exact List.mem_map_of_mem hz)
        · simp only [e, if_false, ne_eq, not_false_eq_true, decide_true, if_true]
          rw [ih2 hn.2]
    rw [List.foldl_cons, ih _ (by rw [hdel]; exact hn.sublist (List.filter_sublist.map _)), hdel, List.filter_filter]
    apply List.filter_congr
    intro x _
    unfold notIn
    rw [List.all_cons, Bool.and_comm]

theorem mem_iff_get {A : Mem} (hn : (A.map Prod.fst).Nodup) (x : Nm) (v : Int) : (x, v) ∈ A ↔ aget A x = some v := by
  refine ⟨fun h => ?_, aget_memA⟩
  induction A with
  | nil => cases h
  | cons y r ih =>
    obtain ⟨a, u⟩ := y
    simp only [List.map_cons, List.nodup_cons] at hn
    simp only [aget]
    rcases List.mem_cons.1 h with h | h
    · cases h
      rw [if_pos rfl]
    · rw [if_neg (fun e => hn.1 (by rw [e]; exact List.mem_map_of_mem (f := Prod.fst) h))]
      exact ih hn.2 h

theorem nodup_of_keys {A : Mem} (hn : (A.map Prod.fst).Nodup) : A.Nodup := by
  unfold List.Nodup at *
  rw [List.pairwise_map] at hn
  exact hn.imp fun h e => h (by rw [e])

theorem perm_of_get {A M : Mem} (hA : (A.map Prod.fst).Nodup) (hM : (M.map Prod.fst).Nodup) (h : ∀ x, aget M x = aget A x) : M.Perm A := by
  rw [List.perm_ext_iff_of_nodup (nodup_of_keys hM) (nodup_of_keys hA)]
  rintro ⟨x, v⟩
  rw [mem_iff_get hM, mem_iff_get hA, h]

theorem get_of_perm {A M : Mem} (hA : (A.map Prod.fst).Nodup) (hM : (M.map Prod.fst).Nodup) (h : M.Perm A) (x : Nm) : aget M x = aget A x := by
  cases hm : aget M x with
  | none =>
    symm
    rw [aget_none_iffA] at hm ⊢
    intro q
    obtain ⟨y, hy, rfl⟩ := List.mem_map.1 q
    exact hm (List.mem_map_of_mem (h.mem_iff.2 hy))
  | some v =>
    symm
    rw [← mem_iff_get hA]
    exact h.mem_iff.1 (aget_memA hm)

/-- A dir's keys, of those that are there. -/
theorem mem_dirKeys {M : Mem} {d : Int} {x : Nm} {ks : List ByteArray} (h : ks.Perm (M.map fun y => nkey y.1)) (hx : x ∈ M.map Prod.fst) : nkey x ∈ dirKeys d ks ↔ d = x.1 := by
  unfold dirKeys
  rw [List.mem_filter, ofDir_nkey]
  simp only [decide_eq_true_eq, and_iff_right_iff_imp]
  intro _
  rw [h.mem_iff]
  obtain ⟨y, hy, rfl⟩ := List.mem_map.1 hx
  exact List.mem_map.2 ⟨y, hy, rfl⟩

theorem dirKeys_len {M : Mem} {d : Int} {ks : List ByteArray} (h : ks.Perm (M.map fun y => nkey y.1)) : (dirKeys d ks).length = (M.filter fun y => decide (y.1.1 = d)).length := by
  unfold dirKeys
  rw [(h.filter _).length_eq, List.filter_map, List.length_map]
  congr 1
  apply List.filter_congr
  intro y _
  simp only [Function.comp, ofDir_nkey]
  exact decide_eq_decide.2 ⟨fun e => e.symm, fun e => e.symm⟩

theorem forget_list {A M : Mem} {d : Int} {ks : List ByteArray} (hA : (A.map Prod.fst).Nodup) (hAM : ∀ x, x ∈ A.map Prod.fst → x ∈ M.map Prod.fst) (h : ks.Perm (M.map fun y => nkey y.1)) :
    (dirKeys d ks).foldl adel (lruOf A) = lruOf (A.filter fun y => decide (y.1.1 ≠ d)) := by
  rw [foldl_adel _ _ (nodup_map hA)]
  unfold lruOf
  rw [List.filter_map]
  congr 1
  apply List.filter_congr
  intro y hy
  simp only [Function.comp]
  rw [Bool.eq_iff_iff, notIn_iff, decide_eq_true_eq]
  refine not_congr ?_
  rw [mem_dirKeys h (hAM _ (List.mem_map_of_mem hy))]
  exact ⟨fun e => e.symm, fun e => e.symm⟩

theorem forget_nodes {M : Mem} {d : Int} {ks : List ByteArray} (hM : (M.map Prod.fst).Nodup) (h : ks.Perm (M.map fun y => nkey y.1)) :
    (dirKeys d ks).foldl adel (nodesV M) = nodesV (M.filter fun y => decide (y.1.1 ≠ d)) := by
  have hn : ((nodesV M).map Prod.fst).Nodup := by
    have e : (nodesV M).map Prod.fst = (lruOf M).map Prod.fst := by simp [nodesV, lruOf]
    rw [e]
    exact nodup_map hM
  rw [foldl_adel _ _ hn]
  unfold nodesV
  rw [List.filter_map]
  congr 1
  apply List.filter_congr
  intro y hy
  simp only [Function.comp]
  rw [Bool.eq_iff_iff, notIn_iff, decide_eq_true_eq]
  refine not_congr ?_
  rw [mem_dirKeys h (List.mem_map_of_mem hy)]
  exact ⟨fun e => e.symm, fun e => e.symm⟩

/-! ### the walk -/

theorem dof_c (w : World) (cb : Nat) (d : Int) :
    Calls Tryd.prog 28 #[.pointer (some ⟨cb, 0, none⟩), .int .i64 d] w fun r w' => r = .returned (.func (.func 42) #[] #[.pointer (some ⟨w.heap.size, 0, none⟩), .pointer (some ⟨w.heap.size + 1, 0, none⟩)]) ∧ w' = (w.alloc (.cells #[.pointer (some ⟨cb, 0, none⟩)] 23)).alloc (.cells #[.int .i64 d] 3) := by
  go_enter Tryd.func28, Tryd.ntmps28
  go_wp2
  go_ret
  exact ⟨rfl, rfl⟩

/-- Forget under way. -/
structure ForW (w wL W : World) (cb lb mb : Nat) (SL : Nat → Prop) (most : Int) (A M : Mem) (pre : List ByteArray) : Prop where
  keep : Keep wL W (fun b => SL b ∨ b = mb ∨ b = w.heap.size + 1)
  list : ListAt W lb SL most (pre.foldl adel (lruOf A))
  map : MapAt W mb kStr (pre.foldl adel (nodesV M))
  num : W.heap[w.heap.size + 1]? = some (.cells #[.int .i64 pre.length] 3 (0, 0))

theorem foldl_adel_len (ks : List ByteArray) : ∀ (L : List Pair), (ks.foldl adel L).length ≤ L.length := by
  induction ks with
  | nil => intro L; exact Nat.le_refl _
  | cons k r ih => intro L; exact Nat.le_trans (ih (adel L k)) ((adel_sub L k).length_le)

set_option maxHeartbeats 8000000 in
theorem dforget_c {w : World} {cb : Nat} {S : Nat → Prop} {most : Int} {A : Mem} (h : CacheAt w cb S most A) (hPw : ∀ U, Keep w U (fun b => S b ∨ w.heap.size ≤ b) → Pw U) (d : Int) (hd : -9223372036854775808 ≤ d ∧ d ≤ 9223372036854775807) :
    Calls Tryd.prog 13 #[.pointer (some ⟨cb, 0, none⟩), .int .i64 d] w fun r w' => r = .returned (.int .i64 (forgetA A d).2) ∧ ∃ S', CacheAt w' cb S' most (forgetA A d).1 ∧ Turn w S w' S' := by
  obtain ⟨lb, mb, SL, M, h1, h2, h3, h4, h5, h6, h7, h8, h9⟩ := h.ex
  have hlt := h.lt
  have hlen := h.ok.len
  have hm1 := h.ok.most1
  have hPM := perm_of_get h.ok.nodup h4 h5
  have hMl : M.length ≤ 64 := by have := hPM.length_eq; omega
  have H := Lib.hid (And.intro h (And.intro h1 (And.intro h2 (And.intro h3 (And.intro h4 (And.intro h5 hPM))))))
  have HS := Lib.hid (And.intro h6 (And.intro h7 (And.intro h8 h9)))
  have HP := Lib.hid hPw
  clear h h1 h2 h3 h4 h5 h6 h7 h8 h9 hPw hPM hlen hm1
  refine calls_marks Tryd.func13 rfl ?_
  simp only [Tryd.ntmps13, List.size_toArray, List.length_cons, List.length_nil, Nat.reduceAdd, Nat.reduceSub, Array.replicate_succ, Array.replicate_zero, List.push_toArray, List.append_toArray, List.nil_append, List.cons_append]
  go_wp2_with (
    go_at_call 28
    refine (dof_c _ _ _).mono ?_
    rintro e w11 ⟨rfl, rfl⟩)
  obtain ⟨wL, hwL⟩ : ∃ wL, wL = (((w.alloc (.cells #[.pointer (some ⟨cb, 0, none⟩)] 23)).alloc (.cells #[.int .i64 0] 3)).alloc (.cells #[.pointer (some ⟨cb, 0, none⟩)] 23)).alloc (.cells #[.int .i64 d] 3) := ⟨_, rfl⟩
  have W0 : Keep w wL (fun _ => False) ∧ wL.heap[w.heap.size]? = some (.cells #[.pointer (some ⟨cb, 0, none⟩)] 23 (0, 0)) ∧ wL.heap[w.heap.size + 1]? = some (.cells #[.int .i64 0] 3 (0, 0)) ∧ wL.heap[w.heap.size + 1 + 1]? = some (.cells #[.pointer (some ⟨cb, 0, none⟩)] 23 (0, 0)) ∧ wL.heap[w.heap.size + 1 + 1 + 1]? = some (.cells #[.int .i64 d] 3 (0, 0)) ∧ wL.heap.size = w.heap.size + 1 + 1 + 1 + 1 := by
    rw [hwL]
    clear hwL
    have k1 := Keep.alloc w (.cells #[.pointer (some ⟨cb, 0, none⟩)] 23) (fun _ => False)
    have g1 := heap_alloc_eq w (.cells #[.pointer (some ⟨cb, 0, none⟩)] 23)
    have z1 : (w.alloc (.cells #[.pointer (some ⟨cb, 0, none⟩)] 23)).heap.size = w.heap.size + 1 := by simp
    generalize w.alloc (.cells #[.pointer (some ⟨cb, 0, none⟩)] 23) = w1 at *
    have k2 := Keep.alloc w1 (.cells #[.int .i64 0] 3) (fun _ => False)
    have g2 := heap_alloc_eq w1 (.cells #[.int .i64 0] 3)
    have z2 : (w1.alloc (.cells #[.int .i64 0] 3)).heap.size = w1.heap.size + 1 := by simp
    generalize w1.alloc (.cells #[.int .i64 0] 3) = w2 at *
    have k3 := Keep.alloc w2 (.cells #[.pointer (some ⟨cb, 0, none⟩)] 23) (fun _ => False)
    have g3 := heap_alloc_eq w2 (.cells #[.pointer (some ⟨cb, 0, none⟩)] 23)
    have z3 : (w2.alloc (.cells #[.pointer (some ⟨cb, 0, none⟩)] 23)).heap.size = w2.heap.size + 1 := by simp
    generalize w2.alloc (.cells #[.pointer (some ⟨cb, 0, none⟩)] 23) = w3 at *
    have k4 := Keep.alloc w3 (.cells #[.int .i64 d] 3) (fun _ => False)
    have g4 := heap_alloc_eq w3 (.cells #[.int .i64 d] 3)
    have z4 : (w3.alloc (.cells #[.int .i64 d] 3)).heap.size = w3.heap.size + 1 := by simp
    rw [z1] at g2 z2; rw [z2] at g3 z3; rw [z3] at g4 z4
    have k34 := k3.trans k4 (fun _ q => q.elim)
    have k24 := k2.trans k34 (fun _ q => q.elim)
    exact ⟨k1.trans k24 (fun _ q => q.elim), k24.get g1 (fun q => q), k34.get g2 (fun q => q), k4.get g3 (fun q => q), g4, z4⟩
  have HW := Lib.hid W0
  clear W0
  rw [← hwL]
  clear hwL
  have hsz := HW.out.2.2.2.2.2
  have hcbw := hlt _ HS.out.1
  have hmbw := hlt _ HS.out.2.1
  have hTlt : ∀ b, (SL b ∨ b = mb ∨ b = w.heap.size + 1) → b < wL.heap.size := fun b q => by
    rcases q with q | q | q
    · have := hlt _ (HS.out.2.2.2 b q).1; omega
    · omega
    · omega
  have hI0 : ForW w wL wL cb lb mb SL most A M [] := ⟨Keep.refl _ _, H.out.2.2.1.aside HW.out.1, H.out.2.2.2.1.keep HW.out.1 (fun q => q), HW.out.2.2.1⟩
  have HI0 := Lib.hid hI0
  have HT := Lib.hid hTlt
  clear hI0 hTlt
  have hSLw : ∀ b, SL b → b < w.heap.size := fun b q => hlt b (HS.out.2.2.2 b q).1
  have hb1 : ¬ (SL (w.heap.size + 1 + 1) ∨ w.heap.size + 1 + 1 = mb ∨ w.heap.size + 1 + 1 = w.heap.size + 1) := fun q => by
    rcases q with q | q | q
    · have := hSLw _ q; omega
    · omega
    · omega
  have hb2 : ¬ (SL (w.heap.size + 1 + 1 + 1) ∨ w.heap.size + 1 + 1 + 1 = mb ∨ w.heap.size + 1 + 1 + 1 = w.heap.size + 1) := fun q => by
    rcases q with q | q | q
    · have := hSLw _ q; omega
    · omega
    · omega
  have hb0 : ¬ (SL w.heap.size ∨ w.heap.size = mb ∨ w.heap.size = w.heap.size + 1) := fun q => by
    rcases q with q | q | q
    · have := hSLw _ q; omega
    · omega
    · omega
  have hcbT : ¬ (SL cb ∨ cb = mb ∨ cb = w.heap.size + 1) := fun q => by
    rcases q with q | q | q
    · exact (HS.out.2.2.2 _ q).2.1 rfl
    · exact HS.out.2.2.1 q
    · omega
  have hpwW : ∀ W, Below wL.heap.size wL W → ∀ U, Keep W U (fun b => (SL b ∨ b = mb ∨ b = w.heap.size + 1) ∨ wL.heap.size ≤ b) → Pw U := fun W hW U k => by
    refine HP.out U (((HW.out.1.mono (fun _ q => q.elim)).trans (Keep.of_below hW) (fun b q => .inl (.inr (by omega)))).trans k (fun b q => .inl ?_))
    rcases q with (q | q | q) | q
    · exact .inl (HS.out.2.2.2 b q).1
    · exact .inl (by rw [q]; exact HS.out.2.1)
    · exact .inr (by omega)
    · exact .inr (by omega)
  refine wp_rangeC (α := ByteArray) (enc := fun x => Value.string x) (X := fun _ _ => False) (ee := 0) (Kp := KpT (fun b => SL b ∨ b = mb ∨ b = w.heap.size + 1) wL.heap.size) (S := fun xs => xs = dirKeys d (sortS ((nodesV M).map Prod.fst))) (Sp := fun pre => pre <+: dirKeys d (sortS ((nodesV M).map Prod.fst)))
    (j := 6) (gf := 42) (lb := #[.pointer (some ⟨w.heap.size + 1 + 1, 0, none⟩), .pointer (some ⟨w.heap.size + 1 + 1 + 1, 0, none⟩)]) rfl (enters_of Tryd.func42 (by kernel_rfl) rfl)
    (fun l J Jx W hW hJ hJx hY h0 => of1_in l (w.heap.size + 1 + 1) (w.heap.size + 1 + 1 + 1) cb d hd S _ most A M lb mb wL.heap.size HT.out ⟨hb1, by omega⟩ ⟨hb2, by omega⟩ J Jx W hW.size (hpwW W hW) hJ (fun pre x U => hY pre x U) ((Keep.of_below hW).get HW.out.2.2.2.1 (by omega)) ((Keep.of_below hW).get HW.out.2.2.2.2.1 (by omega)) ((Keep.of_below hW).get (HW.out.1.get H.out.2.1 (fun q => q)) (by omega)) ((H.out.2.2.2.1.keep HW.out.1 (fun q => q)).keep (Keep.of_below hW) (fun q => by omega)) (by omega) h0)
    (fun b q => q.elim) (fun h k => KpT.trans h k) (fun W l o o' hl ho hc hw => (keep_of_grown (grownBy_putObj' W l o')).mono fun b e => .inr (by simp only [Option.some.injEq] at e; omega))
    (fun pre W => ForW w wL W cb lb mb SL most A M pre) (fun _ _ _ => False) ?abide ?abidex HI0.out ?assign ?body ?done ?stop
  case abide =>
    intro pre A1 A2 hA k
    have hn : ∀ b, b < wL.heap.size → ¬ Turns wL.heap.size (fun _ => False) A1 b := fun b hb q => by
      rcases q with q | q
      · exact q
      · have := q.1; omega
    exact ⟨hA.keep.trans k (fun b q => .inr (by rcases q with q | q; exact q.elim; exact q.1)), hA.list.keep k (fun b q => hn b (HT.out b (.inl q))), hA.map.keep k (hn _ (by omega)), k.get hA.num (hn _ (by omega))⟩
  case abidex => exact fun c s A1 A2 hA k => hA
  case assign =>
    intro l x W K hK
    gi_wp2
    exact hK
  case body =>
    rintro l' pre x W hW hsW hpm
    simp only [List.setIfInBounds_toArray, List.set_cons_succ, List.set_cons_zero]
    have a0 := cell_blk (hW.keep.get HW.out.2.1 hb0) 0
    have a1 := cell_blk (hW.keep.get (HW.out.1.get H.out.2.1 (fun q => q)) hcbT) 1
    simp only [List.getElem?_toArray, List.getElem?_cons_zero, List.getElem?_cons_succ] at a0 a1
    have D := Lib.hid hW
    have hx1 : IntKind.i64.wrap ((pre.length : Int) + 1) = (pre.length : Int) + 1 := IntWalk.i64_in _ (by omega)
    generalize hpl : pre.length = pl at *
    have HPL := Lib.hid hpl
    clear hW hpl
    gi_wp2_with (first
      | (refine law_deleteIn rfl _ _ _ _ rfl kKeys tKeys rfl D.out.map x rfl ?_
         intro w2 hM2 hk2
         have hbm : ∀ b, b ≠ mb → ¬ b = mb := fun b q => q
         have a2 : w2.cell? ⟨w.heap.size, 0, none⟩ = some (.pointer (some ⟨cb, 0, none⟩)) := hk2.cell a0 (by omega)
         have a3 : w2.cell? ⟨cb, 0, none⟩ = some (.pointer (some ⟨lb, 0, none⟩)) := by rw [cell_blk (hk2.get (D.out.keep.get (HW.out.1.get H.out.2.1 (fun q => q)) hcbT) HS.out.2.2.1)]; rfl
         have hL2 := D.out.list.keep hk2 (fun b q => (HS.out.2.2.2 b q).2.2)
         have hdr := drop_c hL2 (Nat.le_trans (foldl_adel_len pre _) (by rw [lruOf_len]; have := H.out.1.ok.len; have := H.out.1.ok.most1; omega)) x
         have N2 := Lib.hid (And.intro hM2 hk2)
         clear hM2 hk2 hL2)
      | (refine ⟨trivial, ?_⟩
         gi_at_call 26
         refine (CallsIn.inRound l' (callsIn_wide.2 hdr)).mono ?_
         rintro e w3 ⟨rfl, hL3, hk3⟩
         have hn1 := hk3.get (N2.out.2.get D.out.num (by omega)) (fun q => by have := hSLw _ q; omega)
         have a4 := cell_blk hn1 0
         have f4 := free_blk hn1 0
         simp only [List.getElem?_toArray, List.getElem?_cons_zero, List.getElem?_cons_succ] at a4
         rw [HPL.out] at a4
         have N3 := Lib.hid (And.intro hL3 (And.intro hk3 hn1))
         clear hdr hL3 hk3 hn1))
    have kS := Keep.setCell w3 ⟨w.heap.size + 1, 0, none⟩ (.int .i64 ((pl : Int) + 1))
    have kk : Keep W (w3.setCell ⟨w.heap.size + 1, 0, none⟩ (.int .i64 ((pl : Int) + 1))) (fun b => SL b ∨ b = mb ∨ b = w.heap.size + 1) :=
      ((N2.out.2.mono (T := fun b => SL b ∨ b = mb ∨ b = w.heap.size + 1) (fun b q => .inr (.inl q))).trans N3.out.2.1 (fun b q => .inl (.inl q))).trans kS (fun b q => .inl (.inr (.inr q)))
    have hmS : ∀ b, SL b → ¬ b = w.heap.size + 1 := fun b q e => by have := hSLw b q; omega
    refine ⟨keepsFrom_of kk HT.out, Keep.mono kk (fun b q => .inl q), ⟨D.out.keep.trans kk (fun b q => .inl q), ?_, ?_, ?_⟩⟩
    · rw [List.foldl_append]
      exact N3.out.1.keep kS hmS
    · rw [List.foldl_append]
      exact (N2.out.1.keep N3.out.2.1 (fun q => (HS.out.2.2.2 _ q).2.2 rfl)).keep kS (fun q => by have q' : mb = w.heap.size + 1 := q; omega)
    · rw [List.length_append, List.length_singleton, HPL.out]
      have := heap_setCell_eq (off := 0) (Value.int .i64 ((pl : Int) + 1)) N3.out.2.2
      simpa using this
  case done =>
    rintro D xs W hD rfl hW hK
    have a4 := cell_blk hW.num 0
    simp only [List.getElem?_toArray, List.getElem?_cons_zero, List.getElem?_cons_succ] at a4
    have hpm : (sortS ((nodesV M).map Prod.fst)).Perm (M.map fun y => nkey y.1) := by
      refine (sortS_perm _).trans ?_
      unfold nodesV
      rw [List.map_map]
      exact List.Perm.refl _
    have hlen := dirKeys_len (d := d) hpm
    have hle := forget_list (d := d) H.out.1.ok.nodup (fun x hx => by
      obtain ⟨y, hy, rfl⟩ := List.mem_map.1 hx
      exact List.mem_map_of_mem (H.out.2.2.2.2.2.2.mem_iff.2 hy)) hpm
    have hno := forget_nodes (d := d) H.out.2.2.2.2.1 hpm
    obtain ⟨xs, hxs⟩ : ∃ xs, xs = dirKeys d (sortS ((nodesV M).map Prod.fst)) := ⟨_, rfl⟩
    rw [← hxs] at hW a4 hlen hle hno
    have D2 := Lib.hid (And.intro hW (And.intro hK (And.intro hle hno)))
    have HL := Lib.hid (show (xs.length : Int) = (forgetA A d).2 by
      show (xs.length : Int) = ((A.filter fun y => decide (y.1.1 = d)).length : Int)
      rw [hlen, (H.out.2.2.2.2.2.2.filter _).length_eq])
    generalize hln : xs.length = k at *
    clear hW hK hle hno hlen hpm hxs hln
    go_wp2
    refine leaves_mark D2.out.2.1 fun w' k' => ⟨.int .i64 k, by simp [results, Tryd.results13, go_sem], by rw [HL.out], ?_⟩
    have kr : Keep W w' (fun b => wL.heap.size ≤ b) := k'.mono fun b q => by
      have q' : b = D := q
      omega
    have hL := D2.out.1.list.keep kr (fun b q z => by have := HT.out b (.inl q); omega)
    have hM := D2.out.1.map.keep kr (by omega)
    rw [D2.out.2.2.1] at hL
    rw [D2.out.2.2.2] at hM
    have hok := H.out.1.ok.forget d
    have kall : Keep w w' (fun b => SL b ∨ b = mb) := (HW.out.1.mono (fun _ q => q.elim)).trans (D2.out.1.keep.trans (T := fun b => SL b ∨ b = mb ∨ wL.heap.size ≤ b) (kr.mono fun b q => .inr (.inr q)) (fun b q => by
      rcases q with q | q | q
      · exact .inl (.inl q)
      · exact .inl (.inr (.inl q))
      · exact .inr q)) (fun b q => by
      rcases q with q | q | q
      · exact .inl (.inl q)
      · exact .inl (.inr q)
      · exact .inr (by omega))
    exact cache_fin H.out.1 H.out.2.1 HS.out.1 HS.out.2.1 HS.out.2.2.1 HS.out.2.2.2 kall hL (fun b q => .inl q) hM (H.out.2.2.2.2.1.sublist (List.filter_sublist.map _)) hok (fun x hx => H.out.1.small x (List.mem_filter.1 hx).1) (fun x => get_of_perm hok.nodup (H.out.2.2.2.2.1.sublist (List.filter_sublist.map _)) (H.out.2.2.2.2.2.2.filter _) x)
  case stop =>
    rintro D c pre W hD _ hh
    exact hh.elim

end Go.Proofs.YtjicoebcmfnooaaDoor
