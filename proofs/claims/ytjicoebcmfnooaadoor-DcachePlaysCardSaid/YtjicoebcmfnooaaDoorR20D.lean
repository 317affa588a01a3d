/-
  The document's cache: Put.
-/
import Derived.Test.YtjicoebcmfnooaaDoorR20C
namespace Go.Proofs.YtjicoebcmfnooaaDoor
open Go Go.RowKit
set_option linter.unusedSectionVars false
set_option linter.unusedSimpArgs false
set_option linter.unusedVariables false
set_option maxRecDepth 100000
attribute [local go_sem] Oper.semAt_some

theorem set_asetA {K : Mem} (hn : (K.map Prod.fst).Nodup) {k : Nat} {x : Nm} {u : Int} (h : K[k]? = some (x, u)) (v : Int) : K.set k (x, v) = aset K x v := by
  induction K generalizing k with
  | nil => simp at h
  | cons z r ih =>
    obtain ⟨a, u'⟩ := z
    simp only [List.map_cons, List.nodup_cons] at hn
    cases k with
    | zero =>
      simp at h
      obtain ⟨rfl, rfl⟩ := h
      simp [aset]
    | succ k =>
      simp only [List.getElem?_cons_succ] at h
      have hne : ¬ a = x := fun e => hn.1 (by rw [e]; exact List.mem_map.2 ⟨(x, u), List.mem_of_getElem? h, rfl⟩)
      simp only [List.set_cons_succ, aset, if_neg hne]
      rw [ih hn.2 h]

theorem known_field (a : ByteArray) (d : Int) (s : ByteArray) (n : Int) (w : World) : (Instr.field 65 (.agg #[.string a, .int .i64 d, .string s, .int .i64 n]) 2).run Tryd.prog w = .ok (.string s) w := by kernel_rfl

/-- The cell of a node is another one now. -/
theorem kref_set {w : World} {rb g n cap k lb : Nat} {S SL : Nat → Prop} {most u v : Int} {L : List Pair} {K : Mem} {x : Nm} (h : RefC w rb S most L K) (h1 : w.heap[rb]? = some (.cells #[.pointer (some ⟨lb, 0, none⟩), .slice (some ⟨g, 0, none⟩) n cap] 62 (0, 0)))
    (hL : RefL w lb SL most L) (h2 : w.ownsRow 0 65 4 (.slice (some ⟨g, 0, none⟩) n cap) n (flat ent8 K)) (h3 : (S g ∧ ¬ SL g) ∧ g ≠ rb) (h4 : S rb) (h5 : ∀ b, SL b → S b ∧ b ≠ rb) (hn : K.length = n) (hx : K[k]? = some (x, u)) :
    RefC (w.setCell ⟨g, k * 4 + 3, none⟩ (.int .i64 v)) rb S most L (K.set k (x, v)) ∧ Keep w (w.setCell ⟨g, k * 4 + 3, none⟩ (.int .i64 v)) S := by
  have k5 := Keep.setCell w ⟨g, k * 4 + 3, none⟩ (.int .i64 v)
  have hset := rows_set h2 (k * 4 + 3) (.int .i64 v)
  rw [flat_set ent8 4 ent8_len hx (by omega) (y := (x, v)) rfl] at hset
  refine ⟨⟨⟨lb, _, SL, k5.get h1 (fun e => h3.2 (show rb = g from e).symm), hL.keep k5 (fun b q e => h3.1.2 (by rw [← show b = g from e]; exact q)), by rw [List.length_set, hn]; exact hset, fun b q => ?_, h4, h5⟩, fun b q => Nat.lt_of_lt_of_le (h.lt b q) k5.size⟩, k5.mono fun b q => by rw [show b = g from q]; exact h3.1.1⟩
  have e : g = b := by simpa [Value.ownBlock] using q
  subst e
  exact h3

set_option maxHeartbeats 8000000 in
theorem krput_c {w : World} {rb : Nat} {S : Nat → Prop} {most : Int} {A : Mem} (h : RCAt w rb S most A) (x : Nm) (hx : Sm x) (v : Int) :
    Calls Tryd.prog 17 #[.pointer (some ⟨rb, 0, none⟩), .int .i64 x.1, .string x.2, .int .i64 v] w fun r w' => r = .returned (.string (putA most A x v).2) ∧ ∃ S', RCAt w' rb S' most (putA most A x v).1 ∧ Turn w S w' S' := by
  have hk := rkey_c x hx.1 hx.2 w
  have H := Lib.hid h
  have HX := Lib.hid hx
  obtain ⟨K0, hK0, hn0, hg0⟩ := h.ex
  have hal := all_of_get h.all hn0 hg0
  have hlen := len_of_get h.ok.nodup hn0 hg0
  have hl64 : K0.length ≤ 64 := by have := h.ok.len; have := h.ok.most1; omega
  have HK := Lib.hid (And.intro hK0 (And.intro hn0 (And.intro hg0 (And.intro hal hl64))))
  cases hg : aget A x with
  | none =>
    have hidx := idx8_none hal hx.1 (by rw [hg0, hg])
    have hg1 : ∀ z, aget (touch K0 x v) z = aget (touch A x v) z := fun z => by rw [aget_touch hn0, aget_touch h.ok.nodup, hg0]
    have hkt : K0 ++ [(x, v)] = touch K0 x v := by unfold touch; rw [adel_noneA (by rw [hg0, hg])]
    have HG := Lib.hid (And.intro hg (And.intro hg1 hkt))
    obtain ⟨pi, pi1, pi2, pi3, pi4⟩ := known_info
    have PI := Lib.hid (And.intro pi1 (And.intro pi2 (And.intro pi3 pi4)))
    clear h hx hK0 hn0 hg0 hal hlen hg hg1 hkt pi1 pi2 pi3 pi4
    have hput := Lib.hid (H.out.ok.put x v)
    by_cases hfit : ((touch A x v).length : Int) ≤ most
    all_goals
      go_enter Tryd.func17, Tryd.ntmps17
      go_upto_region 2 with (
        go_at_call 31
        refine hk.mono ?_
        rintro e w1 ⟨rfl, hk1⟩
        have hf := kfind_c (HK.out.1.aside hk1) (by have := HK.out.2.2.2.2; omega) (k8 x)
        rw [hidx] at hf
        have K1 := Lib.hid hk1
        clear hk hk1)
      go_upto_region 7 with (
        go_at_call 32
        refine hf.mono ?_
        rintro e w2 ⟨rfl, hw2⟩
        subst hw2
        clear hf)
      obtain ⟨lb, sv, SL, h1, hL, h2, h3, h4, h5⟩ := (HK.out.1.aside K1.out).ex
      obtain ⟨sa, cap, rfl, hc⟩ := rows_val2 h2
      have c0 : w2.cell? ⟨rb, 1, none⟩ = some (.slice sa K0.length cap) := by rw [cell_blk h1]; rfl
      obtain ⟨n, hn⟩ : ∃ n, n = K0.length := ⟨_, rfl⟩
      rw [← hn] at c0 hc hl64 h1 h2 h3
      have HO := Lib.hid (And.intro h1 (And.intro h2 (And.intro h3 (And.intro h4 (And.intro h5 hL)))))
      have R0 := Lib.hid h2
      have HN := Lib.hid hn
      clear h1 h2 h3 h4 h5 hL hn
      go_upto_region 8 with (
        at_builtin
        (refine law_append_row rfl _ _ _ rfl Tryd.underlying60 PI.out.1 PI.out.2.1 PI.out.2.2.1 PI.out.2.2.2 known_cells (by decide) rfl (rows_keep R0.out (Keep.alloc w2 _ (fun _ => False)) (fun _ _ q => q)) (ent8 (x, v)) rfl rfl (.inr ⟨_, rfl, cells_new w2 (ent8 (x, v)) _⟩) (fun u hu => by simp only [ent8, List.mem_cons, List.not_mem_nil, or_false] at hu; rcases hu with rfl | rfl | rfl | rfl <;> rfl) (by omega) ?_)
        intro sa8 cap8 w8 r1 r2 r3
        have ka := Keep.alloc w2 (.cells (ent8 (x, v)).toArray 65) (fun _ => False)
        have hr8 := HO.out.2.2.1
        have B8 := r2.get (ka.get HO.out.1 (fun q => q)) (fun e => (hr8 rb e.symm).2 rfl)
        have d0 : w8.cell? ⟨rb, 1, none⟩ = some (.slice sa n cap) := by rw [cell_blk B8]; rfl
        have g0 : w8.frozen? ⟨rb, 1, none⟩ = false := free_blk B8 _
        have k8' : Keep w2 w8 (fun b => some b = (Value.slice sa n cap).ownBlock) := ((ka.mono (T := fun b => some b = (Value.slice sa n cap).ownBlock) (fun _ q => q.elim))).trans r2 (fun b q => .inl q)
        have N8 := Lib.hid (And.intro r1 (And.intro k8' (show ∀ b, (Value.slice sa8 (n + 1) cap8).ownBlock = some b → (Value.slice sa n cap).ownBlock = some b ∨ w2.heap.size ≤ b from fun b q => (r3 b q).imp id (fun z => (by rw [z]; exact ka.size : w2.heap.size ≤ b)))))
        clear r1 r2 r3 ka B8 hr8 k8')
      obtain ⟨wz, hwz⟩ : ∃ wz, wz = w8.setCell ⟨rb, 1, none⟩ (.slice sa8 (n + 1) cap8) := ⟨_, rfl⟩
      obtain ⟨S6, hC6, hT6⟩ := kref_row (T' := K0 ++ [(x, v)]) (n := n + 1) (v := .slice sa8 (n + 1) cap8) (HK.out.1.aside K1.out) HO.out.1 HO.out.2.2.2.2.2 HO.out.2.2.1 HO.out.2.2.2.1 HO.out.2.2.2.2.1 N8.out.2.1 (fun b q => q.symm) (by simp [HN.out]) (by rw [flat_append, show flat ent8 [(x, v)] = ent8 (x, v) from by simp [flat]]; exact N8.out.1) (fun b q => N8.out.2.2 b q)
      rw [← hwz] at hC6 hT6
      rw [← hwz]
      rw [HG.out.2.2] at hC6
      obtain ⟨lb6, sv6, SL6, y1, yL, y2, y3, y4, y5⟩ := hC6.ex
      have c6 : wz.cell? ⟨rb, 0, none⟩ = some (.pointer (some ⟨lb6, 0, none⟩)) := by rw [cell_blk y1]; rfl
      have hu := ruse_c yL (by rw [lru8_len]; have := H.out.ok.len; have := H.out.ok.most1; omega) (lru8_nodup H.out.all H.out.ok.nodup) (k8 x)
      have HC := Lib.hid (And.intro hC6 (And.intro y1 (And.intro y2 (And.intro y3 (And.intro y4 y5)))))
      have HT := Lib.hid ((Turn.mk (K1.out.mono (fun _ q => q.elim)) (fun b q => .inl q) : Turn w S w2 S).trans hT6)
      clear hwz hC6 hT6 y1 yL y2 y3 y4 y5 d0 g0 c0
    · have hpe := Lib.hid (show putA most A x v = (touch A x v, ByteArray.empty) by unfold putA; rw [if_pos hfit])
      rw [use8_fits H.out.all HX.out.1 hfit] at hu
      go_wp2_with (
        go_at_call 33
        refine hu.mono ?_
        rintro e w9 ⟨rfl, S9, hL9, hT9⟩
        obtain ⟨Sa, hCa, hTa⟩ := kref_list HC.out.1 HC.out.2.1 HC.out.2.2.1 HC.out.2.2.2.1 HC.out.2.2.2.2.1 HC.out.2.2.2.2.2 hL9 hT9
        have N9 := Lib.hid (And.intro hCa (HT.out.trans hTa))
        clear hu hL9 hT9 hCa hTa)
      go_ret
      have hok := hput.out
      rw [hpe.out] at hok
      rw [hpe.out]
      exact ⟨rfl, Sa, ⟨hok, H.out.sm_touch HX.out v, _, N9.out.1, touch_nodup HK.out.2.1 x v, HG.out.2.1⟩, N9.out.2⟩
    · have hfit : ¬ ((touch A x v).length : Int) ≤ most := by omega
      obtain ⟨y, r, ht, hus⟩ := use8_full H.out.ok H.out.all HX.out.1 hfit
      rw [hus] at hu
      have hpe := Lib.hid (show putA most A x v = (r, y.1.2) by unfold putA; rw [if_neg hfit, ht]; rfl)
      have hnt := touch_nodup H.out.ok.nodup x v
      have hyg : aget (touch A x v) y.1 = some y.2 := (mem_iff_get hnt y.1 y.2).1 (by rw [ht]; simp)
      have hyr : InR y.1 := H.out.all.touch HX.out.1 v y (by rw [ht]; simp)
      have hn1 := touch_nodup HK.out.2.1 x v
      obtain ⟨k, i1, i2, i3, i4⟩ := idx8_some (all_of_get (H.out.all.touch HX.out.1 v) hn1 HG.out.2.1) hn1 hyr (by rw [HG.out.2.1]; exact hyg)
      have hkl : (touch K0 x v).length ≤ 100000 := by have := touch_len_le K0 x v; rw [← HN.out] at this; omega
      have HY := Lib.hid (And.intro ht (And.intro hnt (And.intro hn1 (And.intro i1 (And.intro i2 (And.intro i4 hkl))))))
      clear ht hus hnt hyg hn1 i1 i2 i3 i4 hkl
      go_wp2_with (first
        | (go_at_call 33
           refine hu.mono ?_
           rintro e w9 ⟨rfl, S9, hL9, hT9⟩
           obtain ⟨Sa, hCa, hTa⟩ := kref_list HC.out.1 HC.out.2.1 HC.out.2.2.1 HC.out.2.2.2.1 HC.out.2.2.2.2.1 HC.out.2.2.2.2.2 hL9 hT9
           have ho := kout_c hCa HY.out.2.2.2.2.2.2 HY.out.2.2.2.2.1 (k8 y.1) HY.out.2.2.2.1
           rw [HY.out.2.2.2.2.2.1] at ho
           have hkf := known_field (k8 y.1) y.1.1 y.1.2 y.2
           have N9 := Lib.hid (HT.out.trans hTa)
           clear hu hL9 hT9 hCa hTa)
        | (go_at_call 34
           refine ho.mono ?_
           rintro e wb ⟨rfl, Sb, hCb, hTb⟩
           have Nb := Lib.hid (And.intro hCb (N9.out.trans hTb))
           clear ho hCb hTb))
      go_ret
      have hok := hput.out
      rw [hpe.out] at hok
      rw [hpe.out]
      refine ⟨rfl, Sb, ⟨hok, fun z hz => H.out.sm_touch HX.out v z (by rw [HY.out.1]; simp [show z ∈ r from hz]), _, Nb.out.1, HY.out.2.2.1.sublist ((adelA_sub _ _).map _), fun z => ?_⟩, Nb.out.2⟩
      have hnt := HY.out.2.1
      rw [aget_adelA HY.out.2.2.1, HG.out.2.1]
      rw [HY.out.1] at hnt ⊢
      exact (aget_tail hnt z).symm
  | some u =>
    obtain ⟨k, hidx, hkx, hkl, -⟩ := idx8_some hal hn0 hx.1 (by rw [hg0, hg])
    have hfit : ((touch A x v).length : Int) ≤ most := by rw [touch_len (by rw [hg]; rfl)]; exact h.ok.len
    have hus := use8_fits (most := most) h.all hx.1 (v := v) hfit
    have hpe := Lib.hid (show putA most A x v = (touch A x v, ByteArray.empty) by unfold putA; rw [if_pos hfit])
    have hput := Lib.hid (h.ok.put x v)
    have hse := set_asetA hn0 hkx v
    have hg1 : ∀ z, aget (aset K0 x v) z = aget (touch A x v) z := fun z => by rw [aget_asetA, aget_touch h.ok.nodup, hg0]
    have HI := Lib.hid (And.intro hkx (And.intro hkl (And.intro hse hg1)))
    have hk0 : (0 : Int) ≤ (k : Int) := by omega
    clear h hx hK0 hn0 hg0 hal hlen hg hkx hse hg1
    go_enter Tryd.func17, Tryd.ntmps17
    go_upto_region 2 with (
      go_at_call 31
      refine hk.mono ?_
      rintro e w1 ⟨rfl, hk1⟩
      have hf := kfind_c (HK.out.1.aside hk1) (by have := HK.out.2.2.2.2; omega) (k8 x)
      rw [hidx] at hf
      have K1 := Lib.hid hk1
      clear hk hk1)
    go_upto_region 4 with (
      go_at_call 32
      refine hf.mono ?_
      rintro e w2 ⟨rfl, hw2⟩
      subst hw2
      clear hf)
    obtain ⟨lb, sv, SL, h1, hL, h2, h3, h4, h5⟩ := (HK.out.1.aside K1.out).ex
    obtain ⟨sa, cap, rfl, hc⟩ := rows_val2 h2
    obtain ⟨g, rfl, -, -, -⟩ := rows_some h2 (by omega)
    have c0 : w2.cell? ⟨rb, 1, none⟩ = some (.slice (some ⟨g, 0, none⟩) K0.length cap) := by rw [cell_blk h1]; rfl
    have c1 : w2.cell? ⟨g, k * 4 + 3, none⟩ = some (.int .i64 u) := (rows_cell h2 (by rw [flat_get ent8 4 ent8_len HI.out.1 (by omega)]; rfl)).1
    have c2 : w2.frozen? ⟨g, k * 4 + 3, none⟩ = false := (rows_cell h2 (by rw [flat_get ent8 4 ent8_len HI.out.1 (by omega)]; rfl)).2
    have HO := Lib.hid (kref_set (v := v) (HK.out.1.aside K1.out) h1 hL h2 (h3 g rfl) h4 h5 rfl HI.out.1)
    clear h1 h2 h3 h4 h5 hL
    go_upto_region 5 with (fail)
    obtain ⟨wz, hwz⟩ : ∃ wz, wz = w2.setCell ⟨g, k * 4 + 3, none⟩ (.int .i64 v) := ⟨_, rfl⟩
    rw [← hwz] at HO
    rw [← hwz]
    have hC6 := HO.out.1
    rw [HI.out.2.2.1] at hC6
    obtain ⟨lb6, sv6, SL6, y1, yL, y2, y3, y4, y5⟩ := hC6.ex
    have c6 : wz.cell? ⟨rb, 0, none⟩ = some (.pointer (some ⟨lb6, 0, none⟩)) := by rw [cell_blk y1]; rfl
    have hu := ruse_c yL (by rw [lru8_len]; have := H.out.ok.len; have := H.out.ok.most1; omega) (lru8_nodup H.out.all H.out.ok.nodup) (k8 x)
    rw [hus] at hu
    have HC := Lib.hid (And.intro hC6 (And.intro y1 (And.intro y2 (And.intro y3 (And.intro y4 y5)))))
    have HT := Lib.hid ((Turn.mk (K1.out.mono (fun _ q => q.elim)) (fun b q => .inl q) : Turn w S w2 S).trans (Turn.mk HO.out.2 (fun b q => .inl q)))
    clear hwz hC6 y1 yL y2 y3 y4 y5 c0 c1 c2 hus
    go_wp2_with (
      go_at_call 33
      refine hu.mono ?_
      rintro e w9 ⟨rfl, S9, hL9, hT9⟩
      obtain ⟨Sa, hCa, hTa⟩ := kref_list HC.out.1 HC.out.2.1 HC.out.2.2.1 HC.out.2.2.2.1 HC.out.2.2.2.2.1 HC.out.2.2.2.2.2 hL9 hT9
      have N9 := Lib.hid (And.intro hCa (HT.out.trans hTa))
      clear hu hL9 hT9 hCa hTa)
    go_ret
    have hok := hput.out
    rw [hpe.out] at hok
    rw [hpe.out]
    exact ⟨rfl, Sa, ⟨hok, H.out.sm_touch HX.out v, _, N9.out.1, aset_nodupA HK.out.2.1 x v, HI.out.2.2.2⟩, N9.out.2⟩

end Go.Proofs.YtjicoebcmfnooaaDoor
