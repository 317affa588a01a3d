/-
  The cache in memory; New, Len, Get, Put, Drop.
-/
import Derived.Test.YtjicoebcmfnooaaDoorD1
namespace Go.Proofs.YtjicoebcmfnooaaDoor
open Go Go.RowKit Go.Shelf
set_option linter.unusedSectionVars false
set_option linter.unusedSimpArgs false
set_option linter.unusedVariables false
set_option maxRecDepth 100000
attribute [local go_sem] Oper.semAt_some

def nodesV (M : Mem) : List (ByteArray × Value) := M.map fun x => (nkey x.1, Value.int .i64 x.2)

theorem nodesV_get (M : Mem) (x : Nm) : aget (nodesV M) (nkey x) = (aget M x).map (Value.int .i64) := aget_mapk M (Value.int .i64) x
theorem nodesV_del (M : Mem) (x : Nm) : adel (nodesV M) (nkey x) = nodesV (adel M x) := adel_mapk M (Value.int .i64) x
theorem nodesV_set (M : Mem) (x : Nm) (v : Int) : aset (nodesV M) (nkey x) (.int .i64 v) = nodesV (aset M x v) := by
  induction M with
  | nil => rfl
  | cons y r ih =>
    obtain ⟨a, u⟩ := y
    unfold nodesV at *
    simp only [List.map_cons, aset]
    by_cases h : a = x
    · subst h
      simp
    · rw [if_neg (fun e => h (nkey_inj e)), if_neg h, List.map_cons, ih]

theorem aget_asetA (M : Mem) (x : Nm) (v : Int) (y : Nm) : aget (aset M x v) y = if x = y then some v else aget M y := by
  induction M with
  | nil => simp [aset, aget]
  | cons z r ih =>
    obtain ⟨a, u⟩ := z
    simp only [aset]
    by_cases h : a = x
    · subst h
      rw [if_pos rfl]
      simp only [aget]
      split <;> simp_all
    · rw [if_neg h]
      simp only [aget, ih]
      by_cases h2 : a = y
      · subst h2
        rw [if_pos rfl, if_neg (fun e => h e.symm), if_pos rfl]
      · rw [if_neg h2, if_neg h2]

theorem aget_adelA {M : Mem} (hn : (M.map Prod.fst).Nodup) (x y : Nm) : aget (adel M x) y = if x = y then none else aget M y := by
  induction M with
  | nil => simp [adel, aget]
  | cons z r ih =>
    obtain ⟨a, u⟩ := z
    simp only [List.map_cons, List.nodup_cons] at hn
    simp only [adel]
    by_cases h : a = x
    · subst h
      rw [if_pos rfl]
      by_cases h2 : a = y
      · subst h2
        rw [if_pos rfl]
        exact aget_none_iffA.2 hn.1
      · rw [if_neg h2]
        simp only [aget]
        rw [if_neg h2]
    · rw [if_neg h]
      simp only [aget, ih hn.2]
      by_cases h2 : a = y
      · subst h2
        rw [if_pos rfl, if_neg (fun e => h e.symm), if_pos rfl]
      · rw [if_neg h2, if_neg h2]

theorem aget_touch {A : Mem} (hn : (A.map Prod.fst).Nodup) (x y : Nm) (v : Int) : aget (touch A x v) y = if x = y then some v else aget A y := by
  have happ : ∀ (L : Mem), aget (L ++ [(x, v)]) y = match aget L y with | some u => some u | none => if x = y then some v else none := by
    intro L
    induction L with
    | nil => simp [aget]
    | cons z r ih =>
      obtain ⟨a, u⟩ := z
      simp only [List.cons_append, aget]
      split
      · rfl
      · exact ih
  unfold touch
  rw [happ, aget_adelA hn]
  by_cases h : x = y
  · subst h
    simp
  · simp only [if_neg h]
    cases aget A y <;> rfl

theorem aget_tail {y : Nm × Int} {r : Mem} (hn : ((y :: r).map Prod.fst).Nodup) (z : Nm) : aget r z = if y.1 = z then none else aget (y :: r) z := by
  obtain ⟨a, u⟩ := y
  simp only [List.map_cons, List.nodup_cons] at hn
  by_cases h : a = z
  · subst h
    rw [if_pos rfl]
    exact aget_none_iffA.2 hn.1
  · rw [if_neg h]
    simp only [aget]
    rw [if_neg h]

/-- A cache at block cb. -/
structure CacheAt (w : World) (cb : Nat) (S : Nat → Prop) (most : Int) (A : Mem) : Prop where
  ok : Mem.ok most A
  small : ∀ x ∈ A, (-9223372036854775808 ≤ x.1.1 ∧ x.1.1 ≤ 9223372036854775807) ∧ x.1.2.size ≤ 9000000000000000000
  ex : ∃ (lb mb : Nat) (SL : Nat → Prop) (M : Mem), w.heap[cb]? = some (.cells #[.pointer (some ⟨lb, 0, none⟩), .map (some mb)] 45 (0, 0)) ∧ ListAt w lb SL most (lruOf A) ∧ MapAt w mb kStr (nodesV M) ∧ (M.map Prod.fst).Nodup ∧ (∀ x, aget M x = aget A x) ∧
    S cb ∧ S mb ∧ cb ≠ mb ∧ ∀ b, SL b → S b ∧ b ≠ cb ∧ b ≠ mb
  lt : ∀ b, S b → b < w.heap.size

theorem CacheAt.keep {w w' : World} {cb : Nat} {S U : Nat → Prop} {most : Int} {A : Mem} (h : CacheAt w cb S most A) (K : Keep w w' U) (hU : ∀ b, S b → ¬ U b) : CacheAt w' cb S most A := by
  obtain ⟨lb, mb, SL, M, h1, h2, h3, h4, h5, h6, h7, h8, h9⟩ := h.ex
  exact ⟨h.ok, h.small, ⟨lb, mb, SL, M, K.get h1 (hU _ h6), h2.keep K (fun b q => hU b (h9 b q).1), h3.keep K (hU _ h7), h4, h5, h6, h7, h8, h9⟩, fun b q => Nat.lt_of_lt_of_le (h.lt b q) K.size⟩

theorem CacheAt.aside {w w' : World} {cb : Nat} {S : Nat → Prop} {most : Int} {A : Mem} (h : CacheAt w cb S most A) (K : Keep w w' (fun _ => False)) : CacheAt w' cb S most A := h.keep K (fun _ _ q => q)

theorem kKeys : KeyKind Tryd.prog 9 kStr := key_str Tryd.underlying9
theorem tKeys : Tryd.prog.underlying 43 = some (.map 9 3) := Tryd.underlying43
theorem zInt (w : World) : (zeroValue 3).run Tryd.prog w = .ok (.int .i64 0) w := by kernel_rfl

theorem dnew_c (w : World) (m : Int) (h1 : 1 ≤ m) (h2 : m ≤ 64) :
    Calls Tryd.prog 7 #[.int .i64 m] w fun r w' => ∃ cb S, r = .returned (.tuple #[.pointer (some ⟨cb, 0, none⟩), .int .i64 0]) ∧ CacheAt w' cb S m [] ∧ Turn w (fun _ => False) w' S := by
  have hn := new_c w m h1 h2
  have hmm := @run_makeMap Tryd.prog
  go_enter Tryd.func7, Tryd.ntmps7
  go_wp2_with (
    go_at_call 22
    refine hn.mono ?_
    rintro e w1 ⟨lb, SL, rfl, hL, hT⟩
    have H := Lib.hid (And.intro hL hT)
    clear hL hT hn)
  go_ret2
  have ka := Keep.alloc w1 (.map #[] 0) (fun _ => False)
  have aa := heap_alloc_eq w1 (.map #[] 0)
  have za : (w1.alloc (.map #[] 0)).heap.size = w1.heap.size + 1 := by simp
  generalize w1.alloc (.map #[] 0) = w2 at *
  have kb := Keep.alloc w2 (.cells #[.pointer (some ⟨lb, 0, none⟩), .map (some w1.heap.size)] 45) (fun _ => False)
  have ab := heap_alloc_eq w2 (.cells #[.pointer (some ⟨lb, 0, none⟩), .map (some w1.heap.size)] 45)
  have zb : (w2.alloc (.cells #[.pointer (some ⟨lb, 0, none⟩), .map (some w1.heap.size)] 45)).heap.size = w2.heap.size + 1 := by simp
  have kk := ka.trans kb (fun _ q => q.elim)
  rw [za] at ab
  refine ⟨w1.heap.size + 1, fun b => SL b ∨ b = w1.heap.size ∨ b = w1.heap.size + 1, rfl, ⟨Mem.new_ok h1 h2, by simp, ⟨lb, w1.heap.size, SL, [], ab, H.out.1.aside kk, ?_, by simp, fun x => rfl, .inr (.inr rfl), .inr (.inl rfl), by omega, fun b q => ?_⟩, fun b q => ?_⟩, ⟨H.out.2.keep.trans kk (fun _ q => q.elim), fun b q => ?_⟩⟩
  · exact ⟨[], 0, rfl, kb.get aa (fun q => q), by simp [nodesV], by simp, by simp⟩
  · have := H.out.1.lt b q
    exact ⟨.inl q, by omega, by omega⟩
  · rw [zb, za]
    rcases q with q | q | q
    · have := H.out.1.lt b q
      omega
    · omega
    · omega
  · have := H.out.2.keep.size
    rcases q with q | q | q
    · exact H.out.2.new b q
    · exact .inr (by omega)
    · exact .inr (by omega)

theorem dlen_c {w : World} {cb : Nat} {S : Nat → Prop} {most : Int} {A : Mem} (h : CacheAt w cb S most A) :
    Calls Tryd.prog 11 #[.pointer (some ⟨cb, 0, none⟩)] w fun r w' => r = .returned (.int .i64 A.length) ∧ w' = w := by
  obtain ⟨lb, mb, SL, M, h1, h2, h3, h4, h5, h6, h7, h8, h9⟩ := h.ex
  have c0 : w.cell? ⟨cb, 0, none⟩ = some (.pointer (some ⟨lb, 0, none⟩)) := by rw [cell_blk h1]; rfl
  have hl := len_c h2
  rw [lruOf_len] at hl
  clear h h1 h2 h3 h4 h5 h6 h7 h8 h9
  go_enter Tryd.func11, Tryd.ntmps11
  go_wp2_with (
    go_at_call 27
    refine hl.mono ?_
    rintro e w1 ⟨rfl, rfl⟩)
  go_ret
  exact ⟨rfl, rfl⟩

/-- The list of keys is another one now. -/
theorem cache_list {w w' : World} {cb lb mb : Nat} {S SL SL' : Nat → Prop} {most : Int} {A A' M : Mem} (h : CacheAt w cb S most A) (h1 : w.heap[cb]? = some (.cells #[.pointer (some ⟨lb, 0, none⟩), .map (some mb)] 45 (0, 0))) (h3 : MapAt w mb kStr (nodesV M)) (h4 : (M.map Prod.fst).Nodup)
    (h6 : S cb) (h7 : S mb) (h8 : cb ≠ mb) (h9 : ∀ b, SL b → S b ∧ b ≠ cb ∧ b ≠ mb) (hL : ListAt w' lb SL' most (lruOf A')) (hT : Turn w SL w' SL') (hok : Mem.ok most A') (hsm : ∀ x ∈ A', (-9223372036854775808 ≤ x.1.1 ∧ x.1.1 ≤ 9223372036854775807) ∧ x.1.2.size ≤ 9000000000000000000) (h5 : ∀ x, aget M x = aget A' x) :
    ∃ S', CacheAt w' cb S' most A' ∧ Turn w S w' S' := by
  have hlt := h.lt
  refine ⟨fun b => S b ∨ SL' b, ⟨hok, hsm, ⟨lb, mb, SL', M, hT.keep.get h1 (fun q => (h9 _ q).2.1 rfl), hL, h3.keep hT.keep (fun q => (h9 _ q).2.2 rfl), h4, h5, .inl h6, .inl h7, h8, fun b q => ?_⟩, fun b q => ?_⟩, ⟨hT.keep.mono fun b q => (h9 b q).1, fun b q => ?_⟩⟩
  · refine ⟨.inr q, ?_⟩
    rcases hT.new b q with z | z
    · exact (h9 b z).2
    · have := hlt _ h6
      have := hlt _ h7
      exact ⟨by omega, by omega⟩
  · rcases q with q | q
    · exact Nat.lt_of_lt_of_le (hlt b q) hT.keep.size
    · exact hL.lt b q
  · rcases q with q | q
    · exact .inl q
    · exact (hT.new b q).imp (fun z => (h9 b z).1) id

theorem small_touch {A : Mem} (hs : ∀ x ∈ A, (-9223372036854775808 ≤ x.1.1 ∧ x.1.1 ≤ 9223372036854775807) ∧ x.1.2.size ≤ 9000000000000000000) {d : Int} {s : ByteArray} (h : (-9223372036854775808 ≤ d ∧ d ≤ 9223372036854775807) ∧ s.size ≤ 9000000000000000000) (v : Int) :
    ∀ x ∈ touch A (d, s) v, (-9223372036854775808 ≤ x.1.1 ∧ x.1.1 ≤ 9223372036854775807) ∧ x.1.2.size ≤ 9000000000000000000 := by
  intro x hx
  unfold touch at hx
  rcases List.mem_append.1 hx with hx | hx
  · exact hs x ((adelA_sub A _).subset hx)
  · simp at hx
    subst hx
    exact h

set_option maxHeartbeats 2000000 in
theorem dget_c {w : World} {cb : Nat} {S : Nat → Prop} {most : Int} {A : Mem} (h : CacheAt w cb S most A) (hp : Pw w) (d : Int) (s : ByteArray) (hd : (-9223372036854775808 ≤ d ∧ d ≤ 9223372036854775807) ∧ s.size ≤ 9000000000000000000) :
    Calls Tryd.prog 10 #[.pointer (some ⟨cb, 0, none⟩), .int .i64 d, .string s] w fun r w' => r = .returned (.tuple #[.int .i64 (getA A (d, s)).2.1, .int .i64 (getA A (d, s)).2.2]) ∧ ∃ S', CacheAt w' cb S' most (getA A (d, s)).1 ∧ Turn w S w' S' := by
  have hk := key_c d s w hp hd.1.1 hd.1.2 hd.2
  have H := Lib.hid h
  unfold getA
  cases hg : aget A (d, s) with
  | none =>
    dsimp only
    have Hg := Lib.hid hg
    clear h hg
    go_enter Tryd.func10, Tryd.ntmps10
    go_upto_region 2 with (
      go_at_call 23
      refine hk.mono ?_
      rintro e w1 ⟨rfl, hk1⟩
      have K1 := Lib.hid hk1
      clear hk hk1)
    obtain ⟨lb, mb, SL, M, h1, h2, h3, h4, h5, h6, h7, h8, h9⟩ := (H.out.aside K1.out).ex
    have c1 : w1.cell? ⟨cb, 1, none⟩ = some (.map (some mb)) := by rw [cell_blk h1]; rfl
    have HM := Lib.hid (And.intro h3 (show aget (nodesV M) (nkey (d, s)) = none by rw [nodesV_get, h5, Hg.out]; rfl))
    clear h1 h2 h3 h4 h5 h6 h7 h8 h9
    go_wp2_with (
      (refine law_lookup_ok rfl _ _ _ rfl kKeys tKeys rfl HM.out.1 zInt (nkey (d, s)) rfl (v := .int .i64 0) (by rw [HM.out.2]; rfl) (i := false) (by rw [HM.out.2]; rfl) ?_))
    go_ret2
    exact ⟨rfl, S, H.out.aside K1.out, K1.out.mono (fun _ q => q.elim), fun b q => .inl q⟩
  | some v =>
    have hu := use_there h.ok hg
    have hlen := h.ok.len
    have hm := h.ok.most1
    have hsm := h.small
    have hto := touch_len (v := v) (show (aget A (d, s)).isSome = true by rw [hg]; rfl)
    have HA := Lib.hid (And.intro hg (And.intro hu (And.intro hlen (And.intro hm (touch_ok h.ok (by rw [hg]; rfl) v)))))
    have HS := Lib.hid hsm
    clear h hg hu hlen hm hsm hto
    obtain ⟨A', hA'⟩ : ∃ A', A' = touch A (d, s) v := ⟨_, rfl⟩
    have hget : ∀ x, aget A x = aget A' x := fun x => by
      rw [hA', aget_touch H.out.ok.nodup]
      split
      · rename_i e
        rw [← e]
        exact HA.out.1
      · rfl
    have hsm' := small_touch HS.out hd v
    have HT := Lib.hid (And.intro hA' (And.intro hget hsm'))
    clear hget hsm'
    dsimp only
    rw [← hA']
    clear hA'
    by_cases hv : v ≤ 0
    · rw [if_pos hv]
      go_enter Tryd.func10, Tryd.ntmps10
      go_upto_region 2 with (
        go_at_call 23
        refine hk.mono ?_
        rintro e w1 ⟨rfl, hk1⟩
        have K1 := Lib.hid hk1
        clear hk hk1)
      obtain ⟨lb, mb, SL, M, h1, h2, h3, h4, h5, h6, h7, h8, h9⟩ := (H.out.aside K1.out).ex
      have c1 : w1.cell? ⟨cb, 1, none⟩ = some (.map (some mb)) := by rw [cell_blk h1]; rfl
      have c0 : w1.cell? ⟨cb, 0, none⟩ = some (.pointer (some ⟨lb, 0, none⟩)) := by rw [cell_blk h1]; rfl
      have hus := use_c h2 (by rw [lruOf_len]; have := HA.out.2.2.1; have := HA.out.2.2.2.1; omega) (nkey (d, s))
      rw [HA.out.2.1] at hus
      have HM := Lib.hid (And.intro h3 (show aget (nodesV M) (nkey (d, s)) = some (.int .i64 v) by rw [nodesV_get, h5, HA.out.1]; rfl))
      have HX := Lib.hid (And.intro h1 (And.intro h4 (And.intro h5 (And.intro h6 (And.intro h7 (And.intro h8 h9))))))
      clear h1 h2 h3 h4 h5 h6 h7 h8 h9
      go_wp2_with (first
        | (refine law_lookup_ok rfl _ _ _ rfl kKeys tKeys rfl HM.out.1 zInt (nkey (d, s)) rfl (v := .int .i64 v) (by rw [HM.out.2]; rfl) (i := true) (by rw [HM.out.2]; rfl) ?_)
        | (go_at_call 24
           refine hus.mono ?_
           rintro e w2 ⟨rfl, SL', hL', hT'⟩
           have HU := Lib.hid (And.intro hL' hT')
           clear hus hL' hT'))
      go_ret2
      refine ⟨rfl, ?_⟩
      obtain ⟨x1, x4, x5, x6, x7, x8, x9⟩ := HX.out
      obtain ⟨S', z1, z2⟩ := cache_list (A' := A') (H.out.aside K1.out) x1 HM.out.1 x4 x6 x7 x8 x9 (by rw [HT.out.1]; exact HU.out.1) HU.out.2 (by rw [HT.out.1]; exact HA.out.2.2.2.2) (by rw [HT.out.1]; exact HT.out.2.2) (fun x => (x5 x).trans (HT.out.2.1 x))
      exact ⟨S', z1, K1.out.mono (fun _ q => q.elim) |>.trans z2.keep (fun b q => .inl q), fun b q => (z2.new b q).imp id (fun q => Nat.le_trans K1.out.size q)⟩
    · rw [if_neg hv]
      go_enter Tryd.func10, Tryd.ntmps10
      go_upto_region 2 with (
        go_at_call 23
        refine hk.mono ?_
        rintro e w1 ⟨rfl, hk1⟩
        have K1 := Lib.hid hk1
        clear hk hk1)
      obtain ⟨lb, mb, SL, M, h1, h2, h3, h4, h5, h6, h7, h8, h9⟩ := (H.out.aside K1.out).ex
      have c1 : w1.cell? ⟨cb, 1, none⟩ = some (.map (some mb)) := by rw [cell_blk h1]; rfl
      have c0 : w1.cell? ⟨cb, 0, none⟩ = some (.pointer (some ⟨lb, 0, none⟩)) := by rw [cell_blk h1]; rfl
      have hus := use_c h2 (by rw [lruOf_len]; have := HA.out.2.2.1; have := HA.out.2.2.2.1; omega) (nkey (d, s))
      rw [HA.out.2.1] at hus
      have HM := Lib.hid (And.intro h3 (show aget (nodesV M) (nkey (d, s)) = some (.int .i64 v) by rw [nodesV_get, h5, HA.out.1]; rfl))
      have HX := Lib.hid (And.intro h1 (And.intro h4 (And.intro h5 (And.intro h6 (And.intro h7 (And.intro h8 h9))))))
      clear h1 h2 h3 h4 h5 h6 h7 h8 h9
      go_wp2_with (first
        | (refine law_lookup_ok rfl _ _ _ rfl kKeys tKeys rfl HM.out.1 zInt (nkey (d, s)) rfl (v := .int .i64 v) (by rw [HM.out.2]; rfl) (i := true) (by rw [HM.out.2]; rfl) ?_)
        | (go_at_call 24
           refine hus.mono ?_
           rintro e w2 ⟨rfl, SL', hL', hT'⟩
           have HU := Lib.hid (And.intro hL' hT')
           clear hus hL' hT'))
      go_ret2
      refine ⟨rfl, ?_⟩
      obtain ⟨x1, x4, x5, x6, x7, x8, x9⟩ := HX.out
      obtain ⟨S', z1, z2⟩ := cache_list (A' := A') (H.out.aside K1.out) x1 HM.out.1 x4 x6 x7 x8 x9 (by rw [HT.out.1]; exact HU.out.1) HU.out.2 (by rw [HT.out.1]; exact HA.out.2.2.2.2) (by rw [HT.out.1]; exact HT.out.2.2) (fun x => (x5 x).trans (HT.out.2.1 x))
      exact ⟨S', z1, K1.out.mono (fun _ q => q.elim) |>.trans z2.keep (fun b q => .inl q), fun b q => (z2.new b q).imp id (fun q => Nat.le_trans K1.out.size q)⟩

end Go.Proofs.YtjicoebcmfnooaaDoor
