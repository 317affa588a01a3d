/-
  The document's cache: Forget, Shrink.
-/
import Derived.Test.YtjicoebcmfnooaaDoorR20C
namespace Go.Proofs.YtjicoebcmfnooaaDoor
open Go Go.RowKit
set_option linter.unusedSectionVars false
set_option linter.unusedSimpArgs false
set_option linter.unusedVariables false
set_option maxRecDepth 100000
attribute [local go_sem] Oper.semAt_some

/-- The cache's list is another one now. -/
theorem kref_list2 {w w' : World} {rb lb : Nat} {S SL SL' : Nat → Prop} {most : Int} {L L' : List Pair} {K : Mem} {v : Value} (h : RefC w rb S most L K) (h1 : w.heap[rb]? = some (.cells #[.pointer (some ⟨lb, 0, none⟩), v] 62 (0, 0)))
    (h2 : w.ownsRow 0 65 4 v K.length (flat ent8 K)) (h3 : ∀ b, v.ownBlock = some b → (S b ∧ ¬ SL b) ∧ b ≠ rb) (h4 : S rb) (h5 : ∀ b, SL b → S b ∧ b ≠ rb) (hL : RefL w' lb SL' most L') (hT : Turn w SL w' SL') :
    ∃ S', RefC w' rb S' most L' K ∧ Turn w S w' S' ∧ ∀ b, S' b → S b ∨ SL' b := by
  have hr := h.lt _ h4
  refine ⟨fun b => S b ∨ SL' b, ⟨⟨lb, v, SL', hT.keep.get h1 (fun q => (h5 _ q).2 rfl), hL, rows_keep h2 hT.keep (fun b q z => (h3 b q).1.2 z), fun b q => ⟨⟨.inl (h3 b q).1.1, fun z => ?_⟩, (h3 b q).2⟩, .inl h4, fun b q => ⟨.inr q, fun e => ?_⟩⟩, fun b q => ?_⟩, ⟨hT.keep.mono fun b q => (h5 b q).1, fun b q => ?_⟩, fun b q => q⟩
  · rcases hT.new b z with z | z
    · exact (h3 b q).1.2 z
    · have := h.lt b (h3 b q).1.1; omega
  · rcases hT.new b q with z | z
    · exact (h5 b z).2 e
    · omega
  · rcases q with q | q
    · exact Nat.lt_of_lt_of_le (h.lt b q) hT.keep.size
    · exact hL.lt b q
  · rcases q with q | q
    · exact .inl q
    · rcases hT.new b q with z | z
      · exact .inl (h5 b z).1
      · exact .inr z

set_option maxHeartbeats 400000 in
theorem krshrink_c {w : World} {rb : Nat} {S : Nat → Prop} {most : Int} {A : Mem} (h : RCAt w rb S most A) (n : Int) :
    Calls Tryd.prog 20 #[.pointer (some ⟨rb, 0, none⟩), .int .i64 n] w fun r w' => r = .returned (.int .i64 (shrinkA A n).2) ∧ ∃ S', RCAt w' rb S' most (shrinkA A n).1 ∧ Turn w S w' S' := by
  have H := Lib.hid h
  obtain ⟨K0, hK0, hn0, hg0⟩ := h.ex
  have hal := all_of_get h.all hn0 hg0
  have hlen := len_of_get h.ok.nodup hn0 hg0
  have hl64 : A.length ≤ 64 := by have := h.ok.len; have := h.ok.most1; omega
  obtain ⟨lb, sv, SL, h1, hL, h2, h3, h4, h5⟩ := hK0.ex
  have hsh := rshrink_c hL (by rw [lru8_len]; omega) (lru8_nodup h.all h.ok.nodup) (fun x hx => by obtain ⟨y, _, rfl⟩ := List.mem_map.1 hx; exact Int.le_refl _) n
  have c0 : w.cell? ⟨rb, 0, none⟩ = some (.pointer (some ⟨lb, 0, none⟩)) := by rw [cell_blk h1]; rfl
  rw [gone8, shrink8] at hsh
  obtain ⟨out, hout⟩ : ∃ out, out = out8 A n.toNat := ⟨_, rfl⟩
  rw [← hout] at hsh
  obtain ⟨k, hk⟩ : ∃ k, k = out.length := ⟨_, rfl⟩
  rw [← hk] at hsh
  have hkn : k = min n.toNat A.length := by rw [hk, hout]; unfold out8; rw [List.length_map, List.length_take]
  have hget : ∀ i, i < k → ∃ y, A[i]? = some y ∧ out[i]? = some (k8 y.1) := fun i hi => by
    have hi2 : i < A.length := by omega
    refine ⟨A[i], List.getElem?_eq_getElem hi2, ?_⟩
    rw [hout]
    unfold out8
    rw [List.getElem?_map, List.getElem?_take_of_lt (by omega), List.getElem?_eq_getElem hi2]
    rfl
  have HO := Lib.hid (And.intro hK0 (And.intro h1 (And.intro h2 (And.intro h3 (And.intro h4 h5)))))
  have HK := Lib.hid (And.intro hn0 (And.intro hg0 (And.intro hal hlen)))
  have HG := Lib.hid (And.intro hget (And.intro hkn hk))
  have hk64 : k ≤ 64 := by omega
  clear h hK0 hn0 hg0 hal hlen h1 hL h2 h3 h4 h5 hget hkn hk hout
  go_enter Tryd.func20, Tryd.ntmps20
  go_wp2_with (
    go_at_call 36
    refine hsh.mono ?_
    rintro e w1 ⟨v, S1, rfl, q1, q2, q3, q4⟩
    obtain ⟨sa, cap, rfl, hcap⟩ := rows_val2 q3
    obtain ⟨S2, hC2, hT2, hE2⟩ := kref_list2 HO.out.1 HO.out.2.1 HO.out.2.2.1 HO.out.2.2.2.1 HO.out.2.2.2.2.1 HO.out.2.2.2.2.2 q1 q2
    have N := Lib.hid (And.intro hC2 (And.intro hT2 (And.intro q3 (show ∀ b, (Value.slice sa k cap).ownBlock = some b → ¬ S2 b from fun b q z => by
      obtain ⟨z1, z2⟩ := q4 b q
      rcases hE2 b z with z | z
      · have := HO.out.1.lt b z; omega
      · exact z2 z))))
    clear hsh q1 q2 q3 q4 hC2 hT2 hE2)
  go_loopg [6] k (fun g s6 wr => ∃ (i : Nat) (K1 : Mem) (S3 : Nat → Prop), s6 = .int .i64 i ∧ i + g = k ∧ RefC wr rb S3 most (lru8 (A.drop n.toNat)) K1 ∧ Turn w1 S2 wr S3 ∧ (K1.map Prod.fst).Nodup ∧ (∀ z, aget K1 z = aget (A.drop i) z) ∧ wr.ownsRow 0 9 1 (.slice sa k cap) k (out.map Value.string) ∧ ∀ b, (Value.slice sa k cap).ownBlock = some b → ¬ S3 b)
  case atStart => exact ⟨0, K0, S2, rfl, by omega, N.out.1, Turn.refl _ _, HK.out.1, HK.out.2.1, N.out.2.2.1, N.out.2.2.2⟩
  case round =>
    obtain ⟨i, K1, S3, rfl, hi, hC, hT, hn1, hg1, hr, ho⟩ := hrel
    obtain ⟨hp1, hp2, hp3, hp4, hp5⟩ := And.intro hC (And.intro hT (And.intro hn1 (And.intro hg1 ho)))
    have hnA : ((A.drop i).map Prod.fst).Nodup := H.out.ok.nodup.sublist ((List.drop_sublist _ _).map _)
    have hkl : K1.length ≤ 100000 := by have := len_of_get hnA hn1 hg1; rw [List.length_drop] at this; omega
    have hal1 : AllR K1 := all_of_get (fun y hy => H.out.all y (List.mem_of_mem_drop hy)) hn1 hg1
    have E := Lib.hid (And.intro hC (And.intro hT (And.intro hn1 (And.intro hg1 (And.intro hr ho)))))
    have EA := Lib.hid hnA
    clear hC hT hp1 hp2 hp3 hp4 hp5 hr ho
    by_cases hl : i < k
    · have hlt' : (i : Int) < (k : Int) := by omega
      obtain ⟨y, hy, hoy⟩ := HG.out.1 i hl
      have hdr : A.drop i = y :: A.drop (i + 1) := by
        obtain ⟨z1, z2⟩ := List.getElem?_eq_some_iff.1 hy
        rw [List.drop_eq_getElem_cons z1, z2]
      have hyg : aget K1 y.1 = some y.2 := by rw [hg1]; exact (mem_iff_get hnA y.1 y.2).1 (by rw [hdr]; simp)
      obtain ⟨j, i1, i2, i3, i4⟩ := idx8_some hal1 hn1 (H.out.all y (List.mem_of_getElem? hy)) hyg
      have hout := kout_c E.out.1 hkl i2 (k8 y.1) i1
      rw [i4] at hout
      have hrow := E.out.2.2.2.2.1
      obtain ⟨g, rfl, -, -, -⟩ := rows_some hrow (by omega)
      have c2 := (rows_cell hrow (mapGet (f := Value.string) hoy)).1
      have HY := Lib.hid hdr
      clear hn1 hg1 hnA hkl hal1 hy hoy hdr hyg i1 i2 i3 i4 hrow
      obtain ⟨ky, hky⟩ : ∃ ky, ky = k8 y.1 := ⟨_, rfl⟩
      rw [← hky] at c2 hout
      clear hky
      go_wp2_with (
        go_at_call 34
        refine hout.mono ?_
        rintro e w5 ⟨rfl, S5, hC5, hT5⟩
        have N5 := Lib.hid (And.intro hC5 hT5)
        clear hout hC5 hT5)
      go_roundg (k - (i + 1))
      case measure => omega
      case rel =>
        have hsz := E.out.1.lt
        refine ⟨i + 1, adel K1 y.1, S5, by go_num, by omega, N5.out.1, E.out.2.1.trans N5.out.2, E.out.2.2.1.sublist ((adelA_sub _ _).map _), fun z => ?_, rows_keep E.out.2.2.2.2.1 N5.out.2.keep E.out.2.2.2.2.2, fun b q z => ?_⟩
        · have hnt := EA.out
          rw [aget_adelA E.out.2.2.1, E.out.2.2.2.1]
          rw [HY.out] at hnt ⊢
          exact (aget_tail hnt z).symm
        · rcases N5.out.2.new b z with z | z
          · exact E.out.2.2.2.2.2 b q z
          · have hlt := E.out.2.2.2.2.1
            rcases rows_val hlt with ⟨e, _⟩ | ⟨g', cp, e, _, _, h6⟩
            · cases e
            · cases e
              have e2 : g = b := by simpa [Value.ownBlock] using q
              omega
    · have hlt' : ¬ (i : Int) < (k : Int) := by omega
      have hik : i = k := by omega
      have HI := Lib.hid hik
      clear hn1 hg1 hnA hkl hal1 hik
      go_wp2
      go_ret
      have hkk := HG.out.2.1
      have hd : A.drop i = A.drop n.toNat := by
        rw [HI.out, hkk]
        by_cases e : n.toNat ≤ A.length
        · rw [Nat.min_eq_left e]
        · rw [Nat.min_eq_right (by omega), List.drop_length, List.drop_of_length_le (by omega)]
      refine ⟨?_, S3, ⟨H.out.ok.shrink n, fun y hy => H.out.small y (List.mem_of_mem_drop hy), K1, E.out.1, E.out.2.2.1, fun z => by rw [E.out.2.2.2.1, hd]; rfl⟩, N.out.2.1.trans E.out.2.1⟩
      unfold shrinkA
      rw [List.length_take, ← hkk]
      rfl

end Go.Proofs.YtjicoebcmfnooaaDoor
