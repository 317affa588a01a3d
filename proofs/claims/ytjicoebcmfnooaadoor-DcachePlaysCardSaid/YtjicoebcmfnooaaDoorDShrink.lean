/-
  The cache's Shrink.
-/
import Derived.Test.YtjicoebcmfnooaaDoorDForget
namespace Go.Proofs.YtjicoebcmfnooaaDoor
open Go Go.RowKit Go.Shelf
set_option linter.unusedSectionVars false
set_option linter.unusedSimpArgs false
set_option linter.unusedVariables false
set_option maxRecDepth 100000
attribute [local go_sem] Oper.semAt_some

def outA (A : Mem) (n : Nat) : List ByteArray := (A.take n).map fun y => nkey y.1

theorem gone_lru (A : Mem) (n : Int) : gone (lruOf A) n = outA A n.toNat := by
  unfold gone outA
  rw [plain_loose (lruOf_plain A)]
  unfold lruOf
  rw [List.map_map, ← List.map_take]
  rfl

theorem filter_out {A : Mem} (hn : (A.map Prod.fst).Nodup) (k : Nat) : A.filter (fun y => notIn (outA A k) (nkey y.1)) = A.drop k := by
  have hs : A = A.take k ++ A.drop k := (List.take_append_drop k A).symm
  have h1 : (A.take k).filter (fun y => notIn (outA A k) (nkey y.1)) = [] := by
    rw [List.filter_eq_nil_iff]
    intro y hy
    rw [notIn_iff]
    exact fun h => h (List.mem_map.2 ⟨y, hy, rfl⟩)
  have h2 : (A.drop k).filter (fun y => notIn (outA A k) (nkey y.1)) = A.drop k := by
    rw [List.filter_eq_self]
    intro y hy
    rw [notIn_iff]
    intro h
    obtain ⟨z, hz, e⟩ := List.mem_map.1 h
    have e' := nkey_inj e
    rw [hs, List.map_append] at hn
    exact (List.nodup_append.1 hn).2.2 z.1 (List.mem_map_of_mem hz) y.1 (List.mem_map_of_mem hy) e'
  conv => lhs; arg 2; rw [hs]
  rw [List.filter_append, h1, h2, List.nil_append]

theorem shrink_list {A : Mem} (hn : (A.map Prod.fst).Nodup) (k : Nat) : (outA A k).foldl adel (lruOf A) = lruOf (A.drop k) := by
  rw [foldl_adel _ _ (nodup_map hn), ← filter_out hn k]
  unfold lruOf
  rw [List.filter_map]
  rfl

theorem shrink_nodes {M : Mem} (hn : (M.map Prod.fst).Nodup) (ks : List ByteArray) : ks.foldl adel (nodesV M) = nodesV (M.filter fun y => notIn ks (nkey y.1)) := by
  have hn' : ((nodesV M).map Prod.fst).Nodup := by
    have e : (nodesV M).map Prod.fst = (lruOf M).map Prod.fst := by simp [nodesV, lruOf]
    rw [e]
    exact nodup_map hn
  rw [foldl_adel _ _ hn']
  unfold nodesV
  rw [List.filter_map]
  rfl

set_option maxHeartbeats 4000000 in
theorem dshrink_c {w : World} {cb : Nat} {S : Nat → Prop} {most : Int} {A : Mem} (h : CacheAt w cb S most A) (n : Int) :
    Calls Tryd.prog 14 #[.pointer (some ⟨cb, 0, none⟩), .int .i64 n] w fun r w' => r = .returned (.int .i64 (shrinkA A n).2) ∧ ∃ S', CacheAt w' cb S' most (shrinkA A n).1 ∧ Turn w S w' S' := by
  obtain ⟨lb, mb, SL, M, h1, h2, h3, h4, h5, h6, h7, h8, h9⟩ := h.ex
  have hlt := h.lt
  have hlen := h.ok.len
  have hm1 := h.ok.most1
  have hPM := perm_of_get h.ok.nodup h4 h5
  have hsh := shrink_c h2 (by rw [lruOf_len]; omega) n
  have c0 : w.cell? ⟨cb, 0, none⟩ = some (.pointer (some ⟨lb, 0, none⟩)) := by rw [cell_blk h1]; rfl
  have hgo := gone_lru A n
  obtain ⟨out, hout⟩ : ∃ out, out = outA A n.toNat := ⟨_, rfl⟩
  have hdl : dropAll (lruOf A) out = lruOf (A.drop n.toNat) := by rw [hout]; exact shrink_list h.ok.nodup _
  have hol : (out.length : Int) = (shrinkA A n).2 := by rw [hout]; unfold outA shrinkA; rw [List.length_map]
  rw [← hout] at hgo
  rw [hgo, hdl] at hsh
  have H := Lib.hid (And.intro h (And.intro h1 (And.intro h3 (And.intro h4 (And.intro h5 hPM)))))
  have HS := Lib.hid (And.intro h6 (And.intro h7 (And.intro h8 h9)))
  have HO := Lib.hid (And.intro hout hol)
  have hok := h.ok.shrink n
  have HK := Lib.hid hok
  have hol2 : out.length ≤ 64 := by rw [hout]; unfold outA; rw [List.length_map, List.length_take]; omega
  clear h h1 h2 h3 h4 h5 h6 h7 h8 h9 hPM hgo hdl hol hok hlen hm1 hout
  generalize hkk : out.length = k at *
  have HN := Lib.hid hkk
  clear hkk
  go_enter Tryd.func14, Tryd.ntmps14
  go_wp2_with (
    go_at_call 29
    refine hsh.mono ?_
    rintro e w1 ⟨v, rfl, q1, q2, q3, q4⟩
    obtain ⟨sa, cap, rfl, hcap⟩ := rows_val2 q3
    have c1 := q2.get H.out.2.1 (fun q => (HS.out.2.2.2 _ q).2.1 rfl)
    have N := Lib.hid (And.intro q1 (And.intro q2 (And.intro q3 (And.intro q4 c1))))
    clear hsh q1 q2 q3 q4 c1)
  go_loopg [16] k (fun g s16 wr => ∃ i : Nat, s16 = .int .i64 i ∧ i + g = k ∧ MapAt wr mb kStr ((out.take i).foldl adel (nodesV M)) ∧ Keep w1 wr (fun b => b = mb))
  case atStart => exact ⟨0, rfl, by omega, H.out.2.2.1.keep N.out.2.1 (fun q => (HS.out.2.2.2 _ q).2.2 rfl), Keep.refl _ _⟩
  case round =>
    obtain ⟨i, rfl, hi, hM, hK⟩ := hrel
    have E := Lib.hid (And.intro hM hK)
    have a1 := cell_blk (hK.get N.out.2.2.2.2 HS.out.2.2.1) 1
    simp only [List.getElem?_toArray, List.getElem?_cons_zero, List.getElem?_cons_succ] at a1
    clear hM hK
    have hmw := hlt _ HS.out.2.1
    by_cases hl : i < k
    · have hlt' : (i : Int) < (k : Int) := by omega
      have hrow := rows_keep N.out.2.2.1 E.out.2 (fun b q e => by have := N.out.2.2.2.1 b q; omega)
      obtain ⟨x, hx⟩ : ∃ x, out[i]? = some x := ⟨_, List.getElem?_eq_getElem (by rw [HN.out]; exact hl)⟩
      obtain ⟨g, rfl, -, -, -⟩ := rows_some hrow (by omega)
      have c2 := (rows_cell hrow (mapGet (f := Value.string) hx)).1
      have htk := Lib.hid (show (out.take (i + 1)).foldl adel (nodesV M) = adel ((out.take i).foldl adel (nodesV M)) x by rw [List.take_add_one, hx]; simp)
      clear hrow hx
      go_wp2_with (
        at_delete
        obtain ⟨B, cl, hB⟩ := E.out.1
        refine law_delete rfl _ _ _ _ rfl kKeys tKeys rfl hB x rfl ?_
        intro w3 B' hB1 hB2 hk3
        have N3 := Lib.hid (And.intro (show MapAt w3 mb kStr _ from ⟨B', cl, hB1⟩) hk3)
        clear hB hB1 hB2 hk3)
      go_roundg (k - (i + 1))
      case measure => omega
      case rel => exact ⟨i + 1, by go_num, by omega, by rw [htk.out]; exact N3.out.1, E.out.2.trans N3.out.2 (fun b q => .inl q)⟩
    · have hlt' : ¬ (i : Int) < (k : Int) := by omega
      go_wp2
      go_ret
      refine ⟨by first | rfl | (rw [HO.out.2]; rfl) | rw [HO.out.2], ?_⟩
      have hM := E.out.1
      rw [List.take_of_length_le (by rw [HN.out]; omega), shrink_nodes H.out.2.2.2.1] at hM
      have kall : Keep w wr (fun b => SL b ∨ b = mb) := (N.out.2.1.mono (fun b q => .inl q)).trans E.out.2 (fun b q => .inl (.inr q))
      have hfp : (M.filter fun y => notIn out (nkey y.1)).Perm (A.drop n.toNat) := by
        rw [← filter_out H.out.1.ok.nodup n.toNat, ← HO.out.1]
        exact H.out.2.2.2.2.2.filter _
      exact cache_fin H.out.1 H.out.2.1 HS.out.1 HS.out.2.1 HS.out.2.2.1 HS.out.2.2.2 kall (N.out.1.keep E.out.2 (fun b q => (HS.out.2.2.2 b q).2.2)) (fun b q => .inl q) hM (H.out.2.2.2.1.sublist (List.filter_sublist.map _)) HK.out (fun x hx => H.out.1.small x (List.mem_of_mem_drop hx))
        (fun x => get_of_perm HK.out.nodup (H.out.2.2.2.1.sublist (List.filter_sublist.map _)) hfp x)

end Go.Proofs.YtjicoebcmfnooaaDoor
