/-
  slices.Sorted(maps.Keys(m)) at map[string]int.
-/
import Derived.Test.YtnjfcedkfobbcaaGreatMapsIn
import Derived.Test.YtnjfcedkfobbcaaGreatSortS
namespace Go.Proofs.YtnjfcedkfobbcaaGreat
open Go Go.RowKit Go.Shelf
set_option linter.unusedSectionVars false
set_option linter.unusedSimpArgs false
set_option linter.unusedVariables false
set_option maxRecDepth 100000
attribute [local go_sem] Oper.semAt_some

theorem s_tMap : Tryz.prog.underlying 47 = some (.map 9 3) := Tryz.underlying47

theorem s_nodup_len {d K : List ByteArray} (hd : d.Nodup) (hK : K.Nodup) (hs : ∀ x ∈ d, x ∈ K) : d.length ≤ K.length := by
  classical
  have h : d.Perm (K.filter (fun x => decide (x ∈ d))) := by
    rw [List.perm_ext_iff_of_nodup hd (hK.filter _)]
    intro x
    rw [List.mem_filter]
    exact ⟨fun q => ⟨hs x q, by simpa using q⟩, fun q => by simpa using q.2⟩
  rw [h.length_eq]
  exact List.length_filter_le _ _

theorem s_iter_walks {w w' : World} {it mb : Nat} {L : List (ByteArray × Value)} {B : List Nat} {done : List ByteArray} (h : IterAt w it mb L B done) (k : KeepsWalks w w') : IterAt w' it mb L B done := by
  obtain ⟨s, e, l, h1, h2, h3⟩ := h
  exact ⟨s, e, l, k.same _ _ h1 rfl, h2, h3⟩
theorem s_map_walks {w w' : World} {mb : Nat} {L : List (ByteArray × Value)} {B : List Nat} {c : Nat} (h : MapAtB w mb kStr L B c) (k : KeepsWalks w w') : MapAtB w' mb kStr L B c := ⟨h.1, k.same _ _ h.2.1 rfl, h.2.2⟩

set_option maxHeartbeats 2000000 in
theorem s_keys1_in (n : Nat) (hn : 1 ≤ n) (l bl mb n0 : Nat) (L : List (ByteArray × Value)) (J Jx : List ByteArray → World → Prop) (W : World) (hJ : AbidesFrom W.heap.size J) (hJx : AbidesFrom W.heap.size Jx)
    (hY : ∀ pre x W1, J pre W1 → pre.length < L.length → YieldAt Fence.wide (n - 1) Tryz.prog l #[.string x] W1 fun e W' =>
      (e = .returned (.bool true) ∧ J (pre ++ [x]) W' ∧ KpW n0 W1 W') ∨ (e = .returned (.bool false) ∧ Jx (pre ++ [x]) W'))
    (hbl : W.cell? ⟨bl, 0, none⟩ = some (.map (some mb))) (hM : MapAt W mb kStr L) (h0 : J [] W) :
    CallsIn Fence.wide n Tryz.prog 110 #[.func (.yield l) #[] #[], .pointer (some ⟨bl, 0, none⟩)] W fun e W' => (∃ v, e = .returned v) ∧
      ((∃ ys : List ByteArray, ys.Perm (L.map Prod.fst) ∧ J ys W') ∨ (∃ pre : List ByteArray, True ∧ Jx pre W')) := by
  obtain ⟨B, c, hB⟩ := hM
  have hmlt : mb < W.heap.size := lt_of_blk hB.2.1
  have HB := Lib.hid (And.intro hB h0)
  clear hB h0
  refine callsIn_of_wp Tryz.func110 rfl trivial ?_ rfl
  simp only [Tryz.ntmps110, List.size_toArray, List.length_cons, List.length_nil, Nat.reduceAdd, Nat.reduceSub, Array.replicate_succ, Array.replicate_zero, List.push_toArray, List.append_toArray, List.nil_append, List.cons_append]
  gi_wp2_with (
    (refine law_rangeIn rfl _ _ rfl s_tMap rfl HB.out.1 ?_)
    intro w1 it hit h1 h2 h3 h4
    have hJ1 : J [] w1 := hJ _ _ _ none HB.out.2 ⟨h3.os, h3.tape, h3.output, h3.size, fun k hk _ => h3.block k hk (fun q => q)⟩ (fun r e => by cases e)
    have H1 := Lib.hid (And.intro h1 (And.intro h2 (And.intro h3 (And.intro hJ1 hit))))
    clear h1 h2 h3 h4 hJ1 hit)
  have hne : it ≠ mb := by have := H1.out.2.2.2.2; omega
  go_frame
  gi_loopg [] (L.length) (fun g wr => ∃ done : List ByteArray, g + done.length = L.length ∧ IterAt wr it mb L B done ∧ MapAtB wr mb kStr L B c ∧ J done.reverse wr ∧ done.Nodup ∧ (∀ k ∈ done, k ∈ L.map Prod.fst))
  case atStart => exact ⟨[], by simp, H1.out.1, H1.out.2.1, H1.out.2.2.2.1, by simp, by simp⟩
  case round =>
    obtain ⟨done, hlen, q1, q2, q3, q4, q5⟩ := hrel
    have Q := Lib.hid (And.intro q1 (And.intro q2 (And.intro q3 (And.intro q4 q5))))
    clear q1 q2 q3 q4 q5
    have hturn : ∀ w2, Keep wr w2 (fun b => b = it) → J done.reverse w2 := fun w2 k => hJ _ _ _ (some it) Q.out.2.2.1 (grown_of_keep k) (fun r e => by
      cases e
      obtain ⟨s, e, l, z, _⟩ := Q.out.1
      exact ⟨by have := H1.out.2.2.2.2; omega, _, z, rfl⟩)
    have HT := Lib.hid hturn
    clear hturn
    gi_wp2_with (first
      | (refine law_nextIn rfl _ rfl rfl Q.out.2.1 Q.out.1 hne ?_ ?_)
      | (intro w2 hall hk2
         have A := Lib.hid (And.intro hall hk2)
         have case1 := 1
         clear hall hk2)
      | (intro w2 x hx hnd hent h1 h2 hk2
         have hlt : done.length < L.length := by
           have := s_nodup_len (d := x.1 :: done) (K := L.map Prod.fst) (List.nodup_cons.2 ⟨hnd, Q.out.2.2.2.1⟩) HB.out.1.2.2.1 (fun y hy => by
             rcases List.mem_cons.1 hy with rfl | hy
             · exact List.mem_map_of_mem hx
             · exact Q.out.2.2.2.2 y hy)
           simp only [List.length_cons, List.length_map] at this
           omega
         obtain ⟨fn, tmps, assign, body, hy, hR⟩ := (show YieldAt Fence.wide (n - 1) Tryz.prog l #[kStr x.1] w2 _ from hY done.reverse x.1 w2 (HT.out w2 hk2) (by rw [List.length_reverse]; exact hlt))
         have A := Lib.hid (And.intro h1 (And.intro h2 (And.intro hnd hx)))
         have case2 := 2
         obtain ⟨xk, xv⟩ := x
         simp only at hy hR hent
         clear hnd hx h1 h2 hk2))
    · gi_wp2
      go_end0
      refine ⟨⟨_, rfl⟩, .inl ⟨done.reverse, ?_, HT.out _ A.out.2⟩⟩
      refine (List.reverse_perm done).trans ?_
      rw [List.perm_ext_iff_of_nodup Q.out.2.2.2.1 HB.out.1.2.2.1]
      intro k
      refine ⟨Q.out.2.2.2.2 k, fun q => ?_⟩
      obtain ⟨y, hy, rfl⟩ := List.mem_map.1 q
      exact A.out.1 y hy
    · refine hR.mono ?_
      rintro e W3 (⟨rfl, hJ3, hk3⟩ | ⟨rfl, hJx3⟩)
      · have N := Lib.hid (And.intro hJ3 hk3)
        clear hJ3 hk3
        gi_wp2
        gi_roundg (L.length - (done.length + 1))
        case measure => omega
        case rel =>
          refine ⟨xk :: done, by simp only [List.length_cons]; omega, s_iter_walks A.out.2.1 N.out.2.1, s_map_walks A.out.1 N.out.2.1, by rw [List.reverse_cons]; exact N.out.1, List.nodup_cons.2 ⟨A.out.2.2.1, Q.out.2.2.2.1⟩, fun k hk => ?_⟩
          rcases List.mem_cons.1 hk with rfl | hk
          · exact List.mem_map_of_mem (f := Prod.fst) A.out.2.2.2
          · exact Q.out.2.2.2.2 k hk
      · gi_wp2
        refine bodyPost_ret (results_none rfl _ _ _) rfl ?_
        exact ⟨⟨_, rfl⟩, .inr ⟨_, trivial, hJx3⟩⟩

theorem s_keys_stops (n : Nat) (hn : 1 ≤ n) (bl mb n0 : Nat) (L : List (ByteArray × Value)) (w : World) (hbl : w.cell? ⟨bl, 0, none⟩ = some (.map (some mb))) (hb : bl < w.heap.size) (hM : MapAt w mb kStr L) :
    SeqStopsK Fence.wide n Tryz.prog 110 #[.pointer (some ⟨bl, 0, none⟩)] (fun x : ByteArray => #[.string x]) (KpW n0) (fun ys => ys.Perm (L.map Prod.fst)) (fun _ => True) L.length w := fun l J Jx W hW hJ hJx hY h0 =>
  s_keys1_in n hn l bl mb n0 L J Jx W hJ hJx hY ((hW.cell (p := ⟨bl, 0, none⟩) hb).trans hbl) (hM.keep (Keep.of_below hW) (fun q => by have := hM.lt; omega)) h0

theorem s_keys_c (w : World) (m : Option Nat) :
    Calls Tryz.prog 102 #[.map m] w fun r w' => r = .returned (.func (.func 110) #[] #[.pointer (some ⟨w.heap.size, 0, none⟩)]) ∧ w' = w.alloc (.cells #[.map m] 47) := by
  go_enter Tryz.func102, Tryz.ntmps102
  go_wp2
  go_ret
  exact ⟨rfl, rfl⟩

theorem s_keepsFrom_cells {Bd : Nat} {W W' : World} {S : Nat → Prop} (h : Keep W W' S) (hS : ∀ b, S b → ∀ o, W.heap[b]? = some o → o.isCells = true) : KeepsFrom Bd W W' :=
  ⟨h.size, fun k o _ hk ho => by
    rw [h.block k (lt_of_blk hk) (fun q => ?_)]
    · exact hk
    · have := hS k q o hk
      rw [this] at ho
      cases ho⟩

/-- The boxes of AppendSeq. -/
structure s_AppW (w wx : World) (v : Value) (out : List ByteArray) : Prop where
  keep : Keep w wx (fun _ => False)
  box : wx.heap[w.heap.size]? = some (.cells #[v] 61 (0, 0))
  row : wx.ownsRow 0 9 1 v out.length (out.map Value.string)
  new : ∀ b, v.ownBlock = some b → w.heap.size + 1 ≤ b

theorem s_own_is {w : World} {v : Value} {n : Nat} {xs : List Value} {e : TypeId} (h : w.ownsRow 0 e 1 v n xs) {b : Nat} (q : v.ownBlock = some b) : ∃ c t f, w.heap[b]? = some (.cells c t f) := by
  rcases h.2 with ⟨rfl, _⟩ | ⟨g, cap, cur, rfl, _, hb, _⟩
  · simp [Value.ownBlock] at q
  · simp only [Value.ownBlock, Option.some.injEq] at q
    subst q
    exact ⟨_, _, _, hb⟩

theorem s_AppW.far {w wx wy : World} {v : Value} {out : List ByteArray} (h : s_AppW w wx v out) {Bd : Nat} (hB : w.heap.size ≤ Bd) (k : Keep wx wy (fun b => Bd ≤ b ∧ ∃ o, wx.heap[b]? = some o ∧ o.isCells = false)) : s_AppW w wy v out := by
  refine ⟨h.keep.trans k (fun b q => .inr (by have := q.1; omega)), k.get h.box (fun q => not_cells h.box q.2), rows_keep h.row k (fun b q z => ?_), h.new⟩
  obtain ⟨c, t, f, hb⟩ := s_own_is h.row q
  obtain ⟨o, ho, hn⟩ := z.2
  rw [hb] at ho
  cases ho
  simp [Obj.isCells] at hn

theorem s_kt_info : ∃ i z, Tryz.prog.info? 9 = some i ∧ i.zero = some z ∧ i.size = 1 ∧ i.bytes ≤ 64 ∧ z.cells.size = 1 := by
  have h : (Tryz.prog.info? 9).map (fun i => (i.size, decide (i.bytes ≤ 64), i.zero.map fun z => z.cells.size)) = some (1, true, some 1) := by kernel_rfl
  cases hh : Tryz.prog.info? 9 with
  | none => rw [hh] at h; simp at h
  | some i =>
    rw [hh] at h
    simp only [Option.map_some, Option.some.injEq, Prod.mk.injEq, decide_eq_true_eq] at h
    obtain ⟨h1, h2, h3⟩ := h
    cases hz : i.zero with
    | none => rw [hz] at h3; simp at h3
    | some z =>
      rw [hz] at h3
      simp at h3
      exact ⟨i, z, rfl, hz, h1, h2, h3⟩

set_option maxHeartbeats 4000000 in
theorem s_appendSeq_c {w : World} {bl mb : Nat} {L : List (ByteArray × Value)} (hbl : w.cell? ⟨bl, 0, none⟩ = some (.map (some mb))) (hM : MapAt w mb kStr L) (hl : L.length ≤ 1099511000000) :
    Calls Tryz.prog 123 #[.slice none 0 0, .func (.func 110) #[] #[.pointer (some ⟨bl, 0, none⟩)]] w fun r w' =>
      ∃ (v : Value) (ys : List ByteArray), r = .returned v ∧ ys.Perm (L.map Prod.fst) ∧ w'.ownsRow 0 9 1 v ys.length (ys.map Value.string) ∧ Keep w w' (fun _ => False) ∧ ∀ b, v.ownBlock = some b → w.heap.size ≤ b := by
  have hblt : bl < w.heap.size := World.block_lt_of_cell? w ⟨bl, 0, none⟩ hbl
  have H := Lib.hid (And.intro hbl hM)
  clear hbl hM
  refine calls_marks Tryz.func123 rfl ?_
  simp only [Tryz.ntmps123, List.size_toArray, List.length_cons, List.length_nil, Nat.reduceAdd, Nat.reduceSub, Array.replicate_succ, Array.replicate_zero, List.push_toArray, List.append_toArray, List.nil_append, List.cons_append]
  go_wp2
  obtain ⟨wL, hwL⟩ : ∃ wL, wL = w.alloc (.cells #[.slice none 0 0] 61) := ⟨_, rfl⟩
  have k1 := Keep.alloc w (.cells #[.slice none 0 0] 61) (fun _ => False)
  have g1 := heap_alloc_eq w (.cells #[.slice none 0 0] 61)
  have z1 : (w.alloc (.cells #[.slice none 0 0] 61)).heap.size = w.heap.size + 1 := by simp
  rw [← hwL] at k1 g1 z1
  rw [← hwL]
  have HW := Lib.hid (show s_AppW w wL (.slice none 0 0) [] from ⟨k1, g1, rows_nil _ _ _, fun b q => by simp [Value.ownBlock] at q⟩)
  have HZ := Lib.hid z1
  have HI := Lib.hid s_kt_info
  clear hwL g1 z1
  have hblL := k1.cell H.out.1 (fun q => q)
  have hML := H.out.2.keep k1 (fun q => q)
  have hblt2 : bl < wL.heap.size := by have := HZ.out; omega
  have hnL : w.heap.size ≤ wL.heap.size := k1.size
  clear k1
  refine wp_range1W (α := ByteArray) (enc := fun x => .string x) (j := 5) (gf := 110) (lb := #[.pointer (some ⟨bl, 0, none⟩)]) (n0 := w.heap.size) rfl (enters_of Tryz.func110 (by kernel_rfl) rfl)
    (s_keys_stops 8 (by omega) bl mb w.heap.size L wL hblL hblt2 hML) hnL
    (fun pre W => pre.length ≤ L.length ∧ ∃ v, s_AppW w W v pre) (fun _ _ _ => False)
    (own_of fun s W W' h k => ⟨h.1, by obtain ⟨v, hv⟩ := h.2; exact ⟨v, hv.far hnL k⟩⟩)
    (fun c => own_of fun s W W' h k => h.elim)
    ⟨Nat.zero_le _, _, HW.out⟩ ?assign ?body ?done ?stop
  case assign =>
    intro l x W K hK
    gi_wp2
    exact hK
  case body =>
    rintro l pre x W ⟨hpl, v, hW⟩ hlt
    have hn1 : 1 ≤ 7 := by omega
    simp only [List.setIfInBounds_toArray, List.set_cons_succ, List.set_cons_zero]
    obtain ⟨sa, cap, rfl, hcap⟩ := rows_val2 hW.row
    have c1 := cell_blk hW.box 0
    have f1 := free_blk hW.box 0
    simp only [List.getElem?_toArray, List.getElem?_cons_zero, List.getElem?_cons_succ] at c1
    have D := Lib.hid (And.intro hW (And.intro hpl hlt))
    have hk : pre.length ≤ 1099511000000 := by omega
    generalize hln : pre.length = k at *
    have HK := Lib.hid hln
    clear hW hpl hln hlt
    obtain ⟨ti, tz, ti1, ti2, ti3, ti4, ti5⟩ := HI.out
    have HJ := Lib.hid (And.intro ti1 (And.intro ti2 (And.intro ti3 (And.intro ti4 ti5))))
    clear ti1 ti2 ti3 ti4 ti5
    have hrow := Lib.hid (show W.ownsRow 0 9 1 (.slice sa k cap) k (pre.map Value.string) from by have := D.out.1.row; rw [HK.out] at this; exact this)
    gi_wp2_with (
      gi_at_builtin
      refine law_pushIn rfl _ _ _ rfl Tryz.underlying61 HJ.out.1 HJ.out.2.1 HJ.out.2.2.1 HJ.out.2.2.2.1 HJ.out.2.2.2.2 hrow.out rfl (.string x) rfl rfl rfl (by omega) ?_
      intro a8 cap8 w8 q1 q2 q3
      have hnb : ¬ (Value.slice sa k cap).ownBlock = some w.heap.size := fun q => by have := D.out.1.new _ q; omega
      have b8 := q2.get D.out.1.box hnb
      have d1 : w8.cell? ⟨w.heap.size, 0, none⟩ = some (.slice sa k cap) := by rw [cell_blk b8]; rfl
      have d2 : w8.frozen? ⟨w.heap.size, 0, none⟩ = false := free_blk b8 _
      have N := Lib.hid (And.intro q1 (And.intro q2 (And.intro q3 b8)))
      clear q1 q2 q3 hnb b8)
    have k5 := Keep.setCell w8 ⟨w.heap.size, 0, none⟩ (.slice a8 (k + 1) cap8)
    have kk : Keep W (w8.setCell ⟨w.heap.size, 0, none⟩ (.slice a8 (k + 1) cap8)) (fun b => (Value.slice sa k cap).ownBlock = some b ∨ b = w.heap.size) := (N.out.2.1.mono (fun b q => .inl q)).trans k5 (fun b q => .inl (.inr q))
    have hcel : ∀ b, ((Value.slice sa k cap).ownBlock = some b ∨ b = w.heap.size) → ∀ o, W.heap[b]? = some o → o.isCells = true := fun b q o ho => by
      rcases q with q | q
      · obtain ⟨c, t, f, hb⟩ := s_own_is D.out.1.row q
        rw [hb] at ho; cases ho; rfl
      · subst q
        rw [D.out.1.box] at ho; cases ho; rfl
    have hge : ∀ b, ((Value.slice sa k cap).ownBlock = some b ∨ b = w.heap.size) → w.heap.size ≤ b := fun b q => by
      rcases q with q | q
      · have := D.out.1.new b q; omega
      · omega
    refine ⟨s_keepsFrom_cells kk hcel, KpW.of kk (fun b q => ⟨hge b q, hcel b q⟩) D.out.1.keep.size, by rw [List.length_append, List.length_singleton, HK.out]; have := D.out.2.2; omega, .slice a8 (k + 1) cap8, ⟨D.out.1.keep.trans kk (fun b q => .inr (hge b q)), heap_setCell_eq (.slice a8 (k + 1) cap8) (off := 0) N.out.2.2.2, ?_, fun b q => ?_⟩⟩
    · have := rows_keep N.out.1 k5 (fun b q z => by
        have hz : b = w.heap.size := z
        rcases N.out.2.2.1 b q with y | y
        · have := D.out.1.new b y; omega
        · have := lt_of_blk D.out.1.box; omega)
      rw [List.length_append, List.length_singleton, HK.out, List.map_append]
      exact this
    · rcases N.out.2.2.1 b q with y | y
      · exact D.out.1.new b y
      · have := lt_of_blk D.out.1.box; omega
  case done =>
    rintro D xs W hD hS ⟨hpl, v, hW⟩ hK
    obtain ⟨sa, cap, rfl, hcap⟩ := rows_val2 hW.row
    have c1 := cell_blk hW.box 0
    simp only [List.getElem?_toArray, List.getElem?_cons_zero, List.getElem?_cons_succ] at c1
    have D2 := Lib.hid (And.intro hW (And.intro hK hS))
    generalize hln : xs.length = k at *
    have HK := Lib.hid hln
    clear hW hK hS hln hpl
    go_wp2
    refine leaves_mark D2.out.2.1 fun w' k' => ⟨.slice sa k cap, by simp [results, Tryz.results123, go_sem], _, xs, rfl, D2.out.2.2, ?_⟩
    have kr : Keep W w' (fun b => wL.heap.size ≤ b ∧ ∃ o, W.heap[b]? = some o ∧ o.isCells = false) := k'.mono fun b q => by
      have q' : b = D := q
      subst q'
      exact ⟨hD, _, D2.out.2.1, rfl⟩
    have hf := D2.out.1.far hnL kr
    exact ⟨hf.row, hf.keep, fun b q => by have := hf.new b q; omega⟩
  case stop =>
    rintro D c pre W hD _ h
    exact h.elim

theorem s_collect_c {w : World} {bl mb : Nat} {L : List (ByteArray × Value)} (hbl : w.cell? ⟨bl, 0, none⟩ = some (.map (some mb))) (hM : MapAt w mb kStr L) (hl : L.length ≤ 1099511000000) :
    Calls Tryz.prog 108 #[.func (.func 110) #[] #[.pointer (some ⟨bl, 0, none⟩)]] w fun r w' =>
      ∃ (v : Value) (ys : List ByteArray), r = .returned v ∧ ys.Perm (L.map Prod.fst) ∧ w'.ownsRow 0 9 1 v ys.length (ys.map Value.string) ∧ Keep w w' (fun _ => False) ∧ ∀ b, v.ownBlock = some b → w.heap.size ≤ b := by
  have hc := s_appendSeq_c hbl hM hl
  clear hbl hM
  go_enter Tryz.func108, Tryz.ntmps108
  go_wp2_with (
    go_at_call 123
    refine hc.mono ?_
    rintro e w1 ⟨v, ys, rfl, h1, h2, h3, h4⟩
    obtain ⟨sa, cap, rfl, -⟩ := rows_val2 h2
    have N := Lib.hid (And.intro h1 (And.intro h2 (And.intro h3 h4)))
    clear h1 h2 h3 h4 hc)
  go_ret
  exact ⟨_, ys, rfl, N.out⟩

theorem s_sorted_c {w : World} {bl mb : Nat} {L : List (ByteArray × Value)} (hbl : w.cell? ⟨bl, 0, none⟩ = some (.map (some mb))) (hM : MapAt w mb kStr L) (hl : L.length ≤ 1099511000000) :
    Calls Tryz.prog 101 #[.func (.func 110) #[] #[.pointer (some ⟨bl, 0, none⟩)]] w fun r w' =>
      ∃ v : Value, r = .returned v ∧ w'.ownsRow 0 9 1 v (sortS (L.map Prod.fst)).length ((sortS (L.map Prod.fst)).map Value.string) ∧ Keep w w' (fun _ => False) ∧ ∀ b, v.ownBlock = some b → w.heap.size ≤ b := by
  have hc := s_collect_c hbl hM hl
  have HL := Lib.hid hl
  clear hbl hM hl
  go_enter Tryz.func101, Tryz.ntmps101
  go_wp2_with (first
    | (go_at_call 108
       refine hc.mono ?_
       rintro e w1 ⟨v, ys, rfl, h1, h2, h3, h4⟩
       obtain ⟨sa, cap, rfl, -⟩ := rows_val2 h2
       have hs := sort_c h2 (by rw [h1.length_eq, List.length_map]; have := HL.out; omega)
       have N := Lib.hid (And.intro h1 (And.intro h2 (And.intro h3 h4)))
       clear h1 h2 h3 h4 hc)
    | (go_at_call 109
       refine hs.mono ?_
       rintro e w2 ⟨rfl, h1, h2⟩
       have M := Lib.hid (And.intro h1 h2)
       clear h1 h2 hs))
  go_ret
  have e : sortS ys = sortS (L.map Prod.fst) := sortS_perm2 N.out.1
  have e2 : ys.length = (sortS (L.map Prod.fst)).length := by rw [← e, sortS_len]
  refine ⟨_, rfl, ?_, N.out.2.2.1.trans M.out.2 (fun b q => .inr (N.out.2.2.2 b q)), fun b q => N.out.2.2.2 b q⟩
  rw [← e2, ← e]
  exact M.out.1

end Go.Proofs.YtnjfcedkfobbcaaGreat
