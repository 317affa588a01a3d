/-
  The cache's Put and Drop.
-/
import Derived.Test.YtjicoebcmfnooaaDoorD2
namespace Go.Proofs.YtjicoebcmfnooaaDoor
open Go Go.RowKit Go.Shelf
set_option linter.unusedSectionVars false
set_option linter.unusedSimpArgs false
set_option linter.unusedVariables false
set_option maxRecDepth 100000
attribute [local go_sem] Oper.semAt_some

theorem aset_nodupA {M : Mem} (hn : (M.map Prod.fst).Nodup) (x : Nm) (v : Int) : ((aset M x v).map Prod.fst).Nodup := by
  induction M with
  | nil => simp [aset]
  | cons z r ih =>
    obtain ⟨a, u⟩ := z
    simp only [aset]
    by_cases h : a = x
    · rw [if_pos h]
      exact hn
    · rw [if_neg h]
      simp only [List.map_cons, List.nodup_cons] at hn ⊢
      refine ⟨fun q => ?_, ih hn.2⟩
      have h2 : ∀ L : Mem, a ∈ (aset L x v).map Prod.fst → a ∈ L.map Prod.fst := by
        intro L
        induction L with
        | nil =>
          intro q
          simp [aset] at q
          exact absurd q h
        | cons y s ih2 =>
          obtain ⟨b, t⟩ := y
          intro q
          simp only [aset] at q
          split at q
          · exact q
          · simp only [List.map_cons, List.mem_cons] at q ⊢
            exact q.imp id ih2
      exact hn.1 (h2 r q)

theorem cache_fin {w w' : World} {cb lb mb : Nat} {S SL SL' : Nat → Prop} {most : Int} {A A' M' : Mem} (h : CacheAt w cb S most A) (h1 : w.heap[cb]? = some (.cells #[.pointer (some ⟨lb, 0, none⟩), .map (some mb)] 45 (0, 0)))
    (h6 : S cb) (h7 : S mb) (h8 : cb ≠ mb) (h9 : ∀ b, SL b → S b ∧ b ≠ cb ∧ b ≠ mb) (K : Keep w w' (fun b => SL b ∨ b = mb)) (hL : ListAt w' lb SL' most (lruOf A')) (hnew : ∀ b, SL' b → SL b ∨ w.heap.size ≤ b) (hM : MapAt w' mb kStr (nodesV M')) (h4 : (M'.map Prod.fst).Nodup)
    (hok : Mem.ok most A') (hsm : ∀ x ∈ A', (-9223372036854775808 ≤ x.1.1 ∧ x.1.1 ≤ 9223372036854775807) ∧ x.1.2.size ≤ 9000000000000000000) (h5 : ∀ x, aget M' x = aget A' x) :
    ∃ S', CacheAt w' cb S' most A' ∧ Turn w S w' S' := by
  have hlt := h.lt
  have hK : ∀ b, SL b ∨ b = mb → S b := fun b q => by
    rcases q with q | q
    · exact (h9 b q).1
    · rw [q]; exact h7
  refine ⟨fun b => S b ∨ SL' b, ⟨hok, hsm, ⟨lb, mb, SL', M', K.get h1 (fun q => ?_), hL, hM, h4, h5, .inl h6, .inl h7, h8, fun b q => ?_⟩, fun b q => ?_⟩, ⟨K.mono hK, fun b q => ?_⟩⟩
  · rcases q with q | q
    · exact (h9 _ q).2.1 rfl
    · exact h8 q
  · refine ⟨.inr q, ?_⟩
    rcases hnew b q with z | z
    · exact (h9 b z).2
    · have := hlt _ h6
      have := hlt _ h7
      exact ⟨by omega, by omega⟩
  · rcases q with q | q
    · exact Nat.lt_of_lt_of_le (hlt b q) K.size
    · exact hL.lt b q
  · rcases q with q | q
    · exact .inl q
    · exact (hnew b q).imp (fun z => (h9 b z).1) id

theorem cut_c (d : Int) (s : ByteArray) (w : World) (h0 : -9223372036854775808 ≤ d) (h1 : d ≤ 9223372036854775807) (hs : s.size ≤ 9000000000000000000) :
    Calls Tryd.prog 25 #[.string (keyB d s), .string ⟨#[47]⟩] w fun e w' => (∃ u, e = .returned (.tuple #[.string u, .string s, .bool true])) ∧ Keep w w' (fun _ => False) := by
  have hc := scut_c d s w h0 h1 hs
  generalize keyB d s = X at *
  go_enter Tryd.func25, Tryd.ntmps25
  go_wp2_with (
    go_at_call 41
    refine hc.mono ?_
    rintro e w1 ⟨⟨u, rfl⟩, hk⟩
    have K := Lib.hid hk
    clear hk hc)
  exact bodyPost_ret (v := .tuple #[.string u, .string s, .bool true]) (by simp [results, Tryd.results25, go_sem]) rfl ⟨⟨u, rfl⟩, K.out⟩

set_option maxHeartbeats 4000000 in
theorem dput_c {w : World} {cb : Nat} {S : Nat → Prop} {most : Int} {A : Mem} (h : CacheAt w cb S most A) (hp : Pw w) (d : Int) (s : ByteArray) (v : Int) (hd : (-9223372036854775808 ≤ d ∧ d ≤ 9223372036854775807) ∧ s.size ≤ 9000000000000000000) :
    Calls Tryd.prog 8 #[.pointer (some ⟨cb, 0, none⟩), .int .i64 d, .string s, .int .i64 v] w fun r w' => r = .returned (.string (putA most A (d, s) v).2) ∧ ∃ S', CacheAt w' cb S' most (putA most A (d, s) v).1 ∧ Turn w S w' S' := by
  have hk := key_c d s w hp hd.1.1 hd.1.2 hd.2
  have hok := h.ok.put (d, s) v
  have hsm := small_touch h.small hd v
  have HH := Lib.hid (And.intro h hsm)
  have hm := h.ok.most1
  have hlen := h.ok.len
  have hnd := touch_nodup h.ok.nodup (d, s) v
  unfold putA at *
  by_cases hl : ((touch A (d, s) v).length : Int) ≤ most
  · rw [if_pos hl] at hok ⊢
    have hu := use_fits h.ok hl
    have HA := Lib.hid (And.intro hok (And.intro hu (And.intro hm hlen)))
    clear h hok hsm hu hm hlen hnd hl
    dsimp only
    obtain ⟨A', hA'⟩ : ∃ A', A' = touch A (d, s) v := ⟨_, rfl⟩
    rw [← hA'] at HA HH ⊢
    have HT := Lib.hid hA'
    clear hA'
    go_enter Tryd.func8, Tryd.ntmps8
    go_upto_region 2 with (
      go_at_call 23
      refine hk.mono ?_
      rintro e w1 ⟨rfl, hk1⟩
      have K1 := Lib.hid hk1
      clear hk hk1)
    obtain ⟨lb, mb, SL, M, h1, h2, h3, h4, h5, h6, h7, h8, h9⟩ := (HH.out.1.aside K1.out).ex
    have c1 : w1.cell? ⟨cb, 1, none⟩ = some (.map (some mb)) := by rw [cell_blk h1]; rfl
    have HX := Lib.hid (And.intro h1 (And.intro h2 (And.intro h3 (And.intro h4 (And.intro h5 (And.intro h6 (And.intro h7 (And.intro h8 h9))))))))
    clear h1 h2 h3 h4 h5 h6 h7 h8 h9
    go_wp2_with (first
      | (refine law_update rfl _ _ _ _ rfl kKeys tKeys rfl HX.out.2.2.1 (nkey (d, s)) rfl ?_
         intro w2 hM2 hk2
         obtain ⟨x1, x2, x3, x4, x5, x6, x7, x8, x9⟩ := HX.out
         have c0 : w2.cell? ⟨cb, 0, none⟩ = some (.pointer (some ⟨lb, 0, none⟩)) := by rw [cell_blk (hk2.get x1 x8)]; rfl
         have hus := use_c (x2.keep hk2 (fun b q => (x9 b q).2.2)) (by rw [lruOf_len]; have := HA.out.2.2.2; have := HA.out.2.2.1; omega) (nkey (d, s))
         rw [HA.out.2.1] at hus
         have H2 := Lib.hid (And.intro hM2 hk2)
         clear x1 x2 x3 x4 x5 x6 x7 x8 x9 hM2 hk2)
      | (go_at_call 24
         refine hus.mono ?_
         rintro e w3 ⟨rfl, SL', hL', hT'⟩
         have H3 := Lib.hid (And.intro hL' hT')
         clear hus hL' hT'))
    go_ret
    refine ⟨rfl, ?_⟩
    obtain ⟨x1, x2, x3, x4, x5, x6, x7, x8, x9⟩ := HX.out
    have hM3 := H2.out.1.keep H3.out.2.keep (fun q => (x9 _ q).2.2 rfl)
    have e : aset (nodesV M) (nkey (d, s)) (.int .i64 v) = nodesV (aset M (d, s) v) := nodesV_set M (d, s) v
    have hM4 : MapAt w3 mb kStr (nodesV (aset M (d, s) v)) := by rw [← e]; exact hM3
    have K13 : Keep w1 w3 (fun b => SL b ∨ b = mb) := (H2.out.2.mono (fun b q => .inr q)).trans H3.out.2.keep (fun b q => .inl (.inl q))
    obtain ⟨S', z1, z2⟩ := cache_fin (HH.out.1.aside K1.out) x1 x6 x7 x8 x9 K13 H3.out.1 (fun b q => (H3.out.2.new b q).imp id (fun q => Nat.le_trans H2.out.2.size q)) hM4 (aset_nodupA x4 _ _) HA.out.1 HH.out.2 (fun x => by rw [aget_asetA, HT.out, aget_touch HH.out.1.ok.nodup, x5])
    exact ⟨S', z1, (K1.out.mono (fun _ q => q.elim)).trans z2.keep (fun b q => .inl q), fun b q => (z2.new b q).imp id (fun q => Nat.le_trans K1.out.size q)⟩
  · rw [if_neg hl] at hok ⊢
    obtain ⟨y, r, hy, hu⟩ := use_full h.ok hl
    rw [hy] at hok hsm hnd HH ⊢
    have hys := hsm y (by simp)
    have hcut := fun U => cut_c y.1.1 y.1.2 U hys.1.1 hys.1.2 hys.2
    have HA := Lib.hid (And.intro hok (And.intro hu (And.intro hm (And.intro hlen (And.intro hnd hy)))))
    clear h hok hsm hu hm hlen hnd hl hy hys
    simp only [List.drop_succ_cons, List.drop_zero, List.head?_cons, Option.map_some, Option.getD_some]
    obtain ⟨gk, hgk⟩ : ∃ gk, gk = nkey y.1 := ⟨_, rfl⟩
    have hcut' : ∀ U, Calls Tryd.prog 25 #[.string gk, .string ⟨#[47]⟩] U fun e w' => (∃ u, e = .returned (.tuple #[.string u, .string y.1.2, .bool true])) ∧ Keep U w' (fun _ => False) := fun U => by rw [hgk]; exact hcut U
    have HG := Lib.hid hgk
    clear hcut hgk
    go_enter Tryd.func8, Tryd.ntmps8
    go_upto_region 2 with (
      go_at_call 23
      refine hk.mono ?_
      rintro e w1 ⟨rfl, hk1⟩
      have K1 := Lib.hid hk1
      clear hk hk1)
    obtain ⟨lb, mb, SL, M, h1, h2, h3, h4, h5, h6, h7, h8, h9⟩ := (HH.out.1.aside K1.out).ex
    have c1 : w1.cell? ⟨cb, 1, none⟩ = some (.map (some mb)) := by rw [cell_blk h1]; rfl
    have HX := Lib.hid (And.intro h1 (And.intro h2 (And.intro h3 (And.intro h4 (And.intro h5 (And.intro h6 (And.intro h7 (And.intro h8 h9))))))))
    clear h1 h2 h3 h4 h5 h6 h7 h8 h9
    go_wp2_with (first
      | (refine law_update rfl _ _ _ _ rfl kKeys tKeys rfl HX.out.2.2.1 (nkey (d, s)) rfl ?_
         intro w2 hM2 hk2
         obtain ⟨x1, x2, x3, x4, x5, x6, x7, x8, x9⟩ := HX.out
         have c0 : w2.cell? ⟨cb, 0, none⟩ = some (.pointer (some ⟨lb, 0, none⟩)) := by rw [cell_blk (hk2.get x1 x8)]; rfl
         have hus := use_c (x2.keep hk2 (fun b q => (x9 b q).2.2)) (by rw [lruOf_len]; have := HA.out.2.2.2.1; have := HA.out.2.2.1; omega) (nkey (d, s))
         rw [HA.out.2.1, ← HG.out] at hus
         have H2 := Lib.hid (And.intro hM2 hk2)
         clear x1 x2 x3 x4 x5 x6 x7 x8 x9 hM2 hk2)
      | (go_at_call 24
         refine hus.mono ?_
         rintro e w3 ⟨rfl, SL', hL', hT'⟩
         obtain ⟨x1, x2, x3, x4, x5, x6, x7, x8, x9⟩ := HX.out
         have c3 : w3.cell? ⟨cb, 1, none⟩ = some (.map (some mb)) := by rw [cell_blk (hT'.keep.get (H2.out.2.get x1 x8) (fun q => (x9 _ q).2.1 rfl))]; rfl
         have H3 := Lib.hid (And.intro hL' hT')
         clear hus hL' hT' x1 x2 x3 x4 x5 x6 x7 x8 x9)
      | (at_delete
         obtain ⟨B, cl, hB⟩ := H2.out.1.keep H3.out.2.keep (fun q => (HX.out.2.2.2.2.2.2.2.2 _ q).2.2 rfl)
         refine law_delete rfl _ _ _ _ rfl kKeys tKeys rfl hB gk rfl ?_
         intro w4 B' hB1 hB2 hk4
         have H4 := Lib.hid (And.intro (show MapAt w4 mb kStr _ from ⟨B', cl, hB1⟩) hk4)
         clear hB hB1 hB2 hk4)
      | (go_at_call 25
         refine (hcut' _).mono ?_
         rintro e w5 ⟨⟨u, rfl⟩, hk5⟩
         have H5 := Lib.hid hk5
         clear hk5 hcut'))
    go_ret
    refine ⟨rfl, ?_⟩
    obtain ⟨x1, x2, x3, x4, x5, x6, x7, x8, x9⟩ := HX.out
    have e1 : aset (nodesV M) (nkey (d, s)) (.int .i64 v) = nodesV (aset M (d, s) v) := nodesV_set M (d, s) v
    have e2 : adel (aset (nodesV M) (nkey (d, s)) (.int .i64 v)) gk = nodesV (adel (aset M (d, s) v) y.1) := by rw [e1, HG.out, nodesV_del]
    have hM4 : MapAt w4 mb kStr (nodesV (adel (aset M (d, s) v) y.1)) := by rw [← e2]; exact H4.out.1
    have hnd2 := aset_nodupA x4 (d, s) v
    have K14 : Keep w1 w4 (fun b => SL b ∨ b = mb) := ((H2.out.2.mono (fun b q => .inr q)).trans H3.out.2.keep (fun b q => .inl (.inl q))).trans H4.out.2 (fun b q => .inl (.inr q))
    have hL4 := H3.out.1.keep H4.out.2 (fun b q e => by
      rcases H3.out.2.new b q with z | z
      · exact (x9 b z).2.2 e
      · have := x3.lt
        have := H2.out.2.size
        omega)
    obtain ⟨S', z1, z2⟩ := cache_fin (A' := r) (HH.out.1.aside K1.out) x1 x6 x7 x8 x9 (K14.trans H5.out (fun _ q => q.elim)) (hL4.aside H5.out) (fun b q => (H3.out.2.new b q).imp id (fun q => Nat.le_trans H2.out.2.size q)) (hM4.keep H5.out (fun q => q)) (hnd2.sublist ((adelA_sub _ _).map _)) HA.out.1 (fun x hx => HH.out.2 x (by simp [hx])) (fun x => by
      rw [aget_adelA hnd2, aget_tail HA.out.2.2.2.2.1, aget_asetA, ← HA.out.2.2.2.2.2, aget_touch HH.out.1.ok.nodup, x5])
    exact ⟨S', z1, (K1.out.mono (fun _ q => q.elim)).trans z2.keep (fun b q => .inl q), fun b q => (z2.new b q).imp id (fun q => Nat.le_trans K1.out.size q)⟩

set_option maxHeartbeats 4000000 in
theorem ddrop_c {w : World} {cb : Nat} {S : Nat → Prop} {most : Int} {A : Mem} (h : CacheAt w cb S most A) (hp : Pw w) (d : Int) (s : ByteArray) (hd : (-9223372036854775808 ≤ d ∧ d ≤ 9223372036854775807) ∧ s.size ≤ 9000000000000000000) :
    Calls Tryd.prog 9 #[.pointer (some ⟨cb, 0, none⟩), .int .i64 d, .string s] w fun r w' => r = .returned (.bool (dropA A (d, s)).2) ∧ ∃ S', CacheAt w' cb S' most (dropA A (d, s)).1 ∧ Turn w S w' S' := by
  have hk := key_c d s w hp hd.1.1 hd.1.2 hd.2
  have hok := h.ok.drop (d, s)
  have hm := h.ok.most1
  have hlen := h.ok.len
  have HH := Lib.hid (And.intro h (And.intro hok (And.intro hm hlen)))
  clear h hok hm hlen
  unfold dropA
  dsimp only
  obtain ⟨bo, hbo⟩ : ∃ bo, bo = (aget A (d, s)).isSome := ⟨_, rfl⟩
  rw [← hbo]
  have HB := Lib.hid (show (aget (lruOf A) (nkey (d, s))).isSome = bo by rw [lruOf_get, hbo]; cases aget A (d, s) <;> rfl)
  clear hbo
  go_enter Tryd.func9, Tryd.ntmps9
  go_upto_region 2 with (
    go_at_call 23
    refine hk.mono ?_
    rintro e w1 ⟨rfl, hk1⟩
    have K1 := Lib.hid hk1
    clear hk hk1)
  obtain ⟨lb, mb, SL, M, h1, h2, h3, h4, h5, h6, h7, h8, h9⟩ := (HH.out.1.aside K1.out).ex
  have c1 : w1.cell? ⟨cb, 1, none⟩ = some (.map (some mb)) := by rw [cell_blk h1]; rfl
  have HX := Lib.hid (And.intro h1 (And.intro h2 (And.intro h3 (And.intro h4 (And.intro h5 (And.intro h6 (And.intro h7 (And.intro h8 h9))))))))
  clear h1 h2 h3 h4 h5 h6 h7 h8 h9
  go_wp2_with (first
    | (at_delete
       obtain ⟨B, cl, hB⟩ := HX.out.2.2.1
       refine law_delete rfl _ _ _ _ rfl kKeys tKeys rfl hB (nkey (d, s)) rfl ?_
       intro w2 B' hB1 hB2 hk2
       obtain ⟨x1, x2, x3, x4, x5, x6, x7, x8, x9⟩ := HX.out
       have c0 : w2.cell? ⟨cb, 0, none⟩ = some (.pointer (some ⟨lb, 0, none⟩)) := by rw [cell_blk (hk2.get x1 x8)]; rfl
       have hdr := drop_c (x2.keep hk2 (fun b q => (x9 b q).2.2)) (by rw [lruOf_len]; have := HH.out.2.2.2; have := HH.out.2.2.1; omega) (nkey (d, s))
       rw [HB.out, lruOf_del] at hdr
       have H2 := Lib.hid (And.intro (show MapAt w2 mb kStr _ from ⟨B', cl, hB1⟩) hk2)
       clear hB hB1 hB2 hk2 x1 x2 x3 x4 x5 x6 x7 x8 x9)
    | (go_at_call 26
       refine hdr.mono ?_
       rintro e w3 ⟨rfl, hL', hk3⟩
       have H3 := Lib.hid (And.intro hL' hk3)
       clear hdr hL' hk3))
  go_ret
  refine ⟨rfl, ?_⟩
  obtain ⟨x1, x2, x3, x4, x5, x6, x7, x8, x9⟩ := HX.out
  have hM4 : MapAt w3 mb kStr (nodesV (adel M (d, s))) := by rw [← nodesV_del]; exact H2.out.1.keep H3.out.2 (fun q => (x9 _ q).2.2 rfl)
  have K13 : Keep w1 w3 (fun b => SL b ∨ b = mb) := (H2.out.2.mono (fun b q => .inr q)).trans H3.out.2 (fun b q => .inl (.inl q))
  obtain ⟨S', z1, z2⟩ := cache_fin (A' := adel A (d, s)) (HH.out.1.aside K1.out) x1 x6 x7 x8 x9 K13 H3.out.1 (fun b q => .inl q) hM4 (x4.sublist ((adelA_sub _ _).map _)) HH.out.2.1 (fun x hx => HH.out.1.small x ((adelA_sub _ _).subset hx)) (fun x => by rw [aget_adelA x4, aget_adelA HH.out.1.ok.nodup, x5])
  exact ⟨S', z1, (K1.out.mono (fun _ q => q.elim)).trans z2.keep (fun b q => .inl q), fun b q => (z2.new b q).imp id (fun q => Nat.le_trans K1.out.size q)⟩

end Go.Proofs.YtjicoebcmfnooaaDoor
