/-
  The document's cache: Forget.
-/
import Derived.Test.YtjicoebcmfnooaaDoorR20E
import Derived.Deep.RegionHeld3
namespace Go.Proofs.YtjicoebcmfnooaaDoor
open Go Go.RowKit
set_option linter.unusedSectionVars false
set_option linter.unusedSimpArgs false
set_option linter.unusedVariables false
set_option maxRecDepth 100000
attribute [local go_sem] Oper.semAt_some

theorem filter_adel {A : Mem} {x : Nm} {p : Nm × Int → Bool} (hp : ∀ v, p (x, v) = false) : (adel A x).filter p = A.filter p := by
  induction A with
  | nil => rfl
  | cons z r ih =>
    obtain ⟨a, u⟩ := z
    simp only [adel]
    by_cases e : a = x
    · subst e
      rw [if_pos rfl, List.filter_cons, hp, if_neg (by simp)]
    · rw [if_neg e, List.filter_cons, List.filter_cons, ih]

theorem filt_len (A : Mem) (d : Int) : (A.filter fun y => decide (y.1.1 ≠ d)).length + (A.filter fun y => decide (y.1.1 = d)).length = A.length := by
  induction A with
  | nil => rfl
  | cons z r ih =>
    rw [List.filter_cons, List.filter_cons, List.length_cons, ← ih]
    by_cases e : z.1.1 = d
    · rw [if_neg (by simpa using e), if_pos (by simpa using e), List.length_cons]
      omega
    · rw [if_pos (by simpa using e), if_neg (by simpa using e), List.length_cons]
      omega

theorem idx8_at {K : Mem} (hK : AllR K) (hn : (K.map Prod.fst).Nodup) {i : Nat} {y : Nm × Int} (hy : K[i]? = some y) : idxT (lru8 K) (k8 y.1) = i ∧ K.eraseIdx i = adel K y.1 := by
  have hg : aget K y.1 = some y.2 := (mem_iff_get hn y.1 y.2).1 (List.mem_of_getElem? hy)
  obtain ⟨k, i1, i2, i3, i4⟩ := idx8_some hK hn (hK y (List.mem_of_getElem? hy)) hg
  have e1 : (K.map Prod.fst)[k]? = some y.1 := by rw [List.getElem?_map, i2]; rfl
  have e2 : (K.map Prod.fst)[i]? = some y.1 := by rw [List.getElem?_map, hy]; rfl
  have : k = i := (List.getElem?_inj (by rw [List.length_map]; exact i3) hn).1 (e1.trans e2.symm)
  subst this
  exact ⟨i1, i4⟩

theorem take_erase {K : Mem} {i : Nat} (h : i < K.length) : (K.eraseIdx i).take i = K.take i := by
  rw [List.eraseIdx_eq_take_drop_succ, List.take_append_of_le_length (by rw [List.length_take]; omega), List.take_take, Nat.min_self]

structure FgR (w wr : World) (rb : Nat) (S S3 : Nat → Prop) (most d : Int) (A A1 K1 : Mem) (i n : Nat) : Prop where
  ref : RefC wr rb S3 most (lru8 A1) K1
  turn : Turn w S wr S3
  n1 : (A1.map Prod.fst).Nodup
  n2 : (K1.map Prod.fst).Nodup
  get : ∀ z, aget K1 z = aget A1 z
  past : ∀ y ∈ K1.take i, y.1.1 ≠ d
  flt : (A1.filter fun y => decide (y.1.1 ≠ d)) = A.filter fun y => decide (y.1.1 ≠ d)
  sub : A1.Sublist A
  num : n + A1.length = A.length

theorem FgR.keep {w wr w' : World} {rb : Nat} {S S3 : Nat → Prop} {most d : Int} {A A1 K1 : Mem} {i n : Nat} (h : FgR w wr rb S S3 most d A A1 K1 i n) (k : Keep wr w' (fun _ => False)) : FgR w w' rb S S3 most d A A1 K1 i n :=
  ⟨h.ref.aside k, ⟨h.turn.keep.trans k (fun _ q => q.elim), h.turn.new⟩, h.n1, h.n2, h.get, h.past, h.flt, h.sub, h.num⟩

set_option maxHeartbeats 2000000 in
theorem krforget_c {w : World} {rb : Nat} {S : Nat → Prop} {most : Int} {A : Mem} (h : RCAt w rb S most A) (d : Int) :
    Calls Tryd.prog 19 #[.pointer (some ⟨rb, 0, none⟩), .int .i64 d] w fun r w' => r = .returned (.int .i64 (forgetA A d).2) ∧ ∃ S', RCAt w' rb S' most (forgetA A d).1 ∧ Turn w S w' S' := by
  have H := Lib.hid h
  obtain ⟨K0, hK0, hn0, hg0⟩ := h.ex
  have hl64 : A.length ≤ 64 := by have := h.ok.len; have := h.ok.most1; omega
  have F0 : Hid (FgR w w rb S S most d A A K0 0 0) := Lib.hid ⟨hK0, Turn.refl _ _, h.ok.nodup, hn0, hg0, by simp, rfl, List.Sublist.refl _, by omega⟩
  have hlen0 := len_of_get h.ok.nodup hn0 hg0
  obtain ⟨m0, hm0⟩ : ∃ m0, m0 = K0.length := ⟨_, rfl⟩
  have HM := Lib.hid hm0
  clear h hK0 hn0 hg0 hm0 hlen0
  go_enter Tryd.func19, Tryd.ntmps19
  go_wp2
  go_loopg [5, 6] m0 (fun g s5 s6 wr => ∃ (i n : Nat) (A1 K1 : Mem) (S3 : Nat → Prop), s5 = .int .i64 n ∧ s6 = .int .i64 i ∧ i + g = K1.length ∧ FgR w wr rb S S3 most d A A1 K1 i n)
  case atStart => exact ⟨0, 0, A, K0, S, rfl, rfl, by rw [HM.out]; omega, F0.out⟩
  case round =>
    obtain ⟨i, n, A1, K1, S3, rfl, rfl, hi, hF⟩ := hrel
    obtain ⟨wo, hwo⟩ : ∃ wo, wo = wr := ⟨_, rfl⟩
    subst hwo
    have F := Lib.hid hF
    have hal1 : AllR K1 := all_of_get (fun y hy => H.out.all y (hF.sub.subset hy)) hF.n2 hF.get
    have hlen1 := len_of_get hF.n1 hF.n2 hF.get
    have hsl := hF.sub.length_le
    have hnum := hF.num
    obtain ⟨lb, sv, SL, h1, hL, h2, h3, h4, h5⟩ := hF.ref.ex
    obtain ⟨sa, cap, rfl, hc⟩ := rows_val2 h2
    obtain ⟨m, hm⟩ : ∃ m, m = K1.length := ⟨_, rfl⟩
    rw [← hm] at h1 h2 h3 hc hi hlen1
    have c1 : wo.cell? ⟨rb, 1, none⟩ = some (.slice sa m cap) := by rw [cell_blk h1]; rfl
    have HO := Lib.hid (And.intro h1 (And.intro hL (And.intro h2 (And.intro h3 (And.intro h4 h5)))))
    have HE := Lib.hid (And.intro hal1 hm)
    clear hF hal1 h1 hL h2 h3 h4 h5 hm
    by_cases hl : i < m
    · have hlt' : (i : Int) < (m : Int) := by omega
      obtain ⟨y, hy⟩ : ∃ y, K1[i]? = some y := ⟨_, List.getElem?_eq_getElem (by rw [← HE.out.2]; exact hl)⟩
      have hrow := HO.out.2.2.1
      obtain ⟨g, rfl, -, -, -⟩ := rows_some hrow (by omega)
      have c2 : wo.cell? ⟨g, i * 4, none⟩ = some (.string (k8 y.1)) := (rows_cell hrow (by rw [← Nat.add_zero (i * 4), flat_get ent8 4 ent8_len hy (by omega)]; rfl)).1
      have c3 : wo.cell? ⟨g, i * 4 + 1, none⟩ = some (.int .i64 y.1.1) := (rows_cell hrow (by rw [flat_get ent8 4 ent8_len hy (by omega)]; rfl)).1
      obtain ⟨yd, hyd⟩ : ∃ yd, yd = y.1.1 := ⟨_, rfl⟩
      rw [← hyd] at c3
      by_cases hd : yd = d
      · have hb1 : (yd != d) = false := by simp [hd]
        have HY := Lib.hid (And.intro hy (show y.1.1 = d by rw [← hyd]; exact hd))
        clear hd hyd hrow hy
        have hdr := rdrop_c (HO.out.2.1.aside (Keep.drew wo (fun _ => False))) (by rw [lru8_len]; omega) (k8 y.1)
        rw [adel8 A1 (fun z hz => H.out.all z (F.out.sub.subset hz)) (HE.out.1 y (List.mem_of_getElem? HY.out.1))] at hdr
        have hidx := idx8_at HE.out.1 F.out.n2 HY.out.1
        have hcall := F.out.keep (Keep.drew wo (fun _ => False))
        obtain ⟨ky, hky⟩ : ∃ ky, ky = k8 y.1 := ⟨_, rfl⟩
        rw [← hky] at c2 hdr hidx
        have c0 : wo.cell? ⟨rb, 0, none⟩ = some (.pointer (some ⟨lb, 0, none⟩)) := by rw [cell_blk HO.out.1]; rfl
        have hq : ∀ U (T : Nat → Prop), Keep wo U T → ¬ T rb → ¬ T g → U.cell? ⟨rb, 0, none⟩ = some (.pointer (some ⟨lb, 0, none⟩)) ∧ U.cell? ⟨rb, 1, none⟩ = some (.slice (some ⟨g, 0, none⟩) m cap) ∧ U.cell? ⟨g, i * 4, none⟩ = some (.string ky) := fun U T k a b => ⟨k.cell c0 a, k.cell c1 a, k.cell c2 b⟩
        have HQ := Lib.hid hq
        have HKY := Lib.hid (And.intro hky (And.intro hidx hcall))
        have SD := hq _ _ (Keep.drew wo (fun _ => False)) (fun q => q) (fun q => q)
        clear hky hidx hcall hq
        go_upto_region 6 with (fail)
        (go_region_held3 (fun w' => w'.cell? ⟨rb, 0, none⟩ = some (.pointer (some ⟨lb, 0, none⟩)) ∧ w'.cell? ⟨rb, 1, none⟩ = some (.slice (some ⟨g, 0, none⟩) m cap) ∧ w'.cell? ⟨g, i * 4, none⟩ = some (.string ky)) (first | exact SD | exact S3' | fail) (first
          | (go_at_call 35
             (with_reducible refine hdr.mono ?_)
             rintro e w3 ⟨rfl, S4, hL4, hT4⟩
             obtain ⟨S5, hC5, hT5⟩ := kref_list HKY.out.2.2.ref ((Keep.drew wo (fun _ => False)).get HO.out.1 (fun q => q)) (by rw [← HE.out.2]; exact rows_keep HO.out.2.2.1 (Keep.drew wo (fun _ => False)) (fun _ _ q => q)) HO.out.2.2.2.1 HO.out.2.2.2.2.1 HO.out.2.2.2.2.2 hL4 hT4
             have ho := kout_c hC5 (by rw [← HE.out.2]; omega) HY.out.1 ky HKY.out.2.1.1
             rw [HKY.out.2.1.2] at ho
             have N4 := Lib.hid (HKY.out.2.2.turn.trans hT5)
             have hkeep : Keep wo w3 SL := ((Keep.drew wo (fun _ => False)).mono (T := SL) (fun _ q => q.elim)).trans hT4.keep (fun b q => .inl q)
             have S3' := HQ.out _ _ hkeep (fun q => (HO.out.2.2.2.2.2 _ q).2 rfl) (fun q => (HO.out.2.2.2.1 g rfl).1.2 q)
             clear hdr hL4 hT4 hkeep hC5 hT5)))
        obtain ⟨v0, v1, v2⟩ := S3'
        clear SD c0 c1 c2 c3
        go_wp2_with (
          go_at_call 34
          (with_reducible refine ho.mono ?_)
          rintro e w5 ⟨rfl, S6, hC6, hT6⟩
          have N6 := Lib.hid (And.intro hC6 (N4.out.trans hT6))
          clear ho hC6 hT6)
        have f := F.out
        have hga : (aget A1 y.1).isSome = true := by
          have e := (mem_iff_get f.n2 y.1 y.2).1 (List.mem_of_getElem? HY.out.1)
          rw [f.get] at e
          rw [e]; rfl
        have hal := adel_len hga
        have hel : (adel K1 y.1).length = m - 1 := by rw [← HKY.out.2.1.2, List.length_eraseIdx, if_pos (by rw [← HE.out.2]; exact hl), ← HE.out.2]
        go_roundg (m - 1 - i)
        case measure => omega
        case rel =>
          refine ⟨i, n + 1, adel A1 y.1, adel K1 y.1, S6, by go_num, rfl, by rw [hel]; omega, N6.out.1, N6.out.2, f.n1.sublist ((adelA_sub _ _).map _), f.n2.sublist ((adelA_sub _ _).map _), fun z => ?_, fun z hz => ?_, ?_, (adelA_sub _ _).trans f.sub, by omega⟩
          · rw [aget_adelA f.n2, aget_adelA f.n1, f.get]
          · rw [← HKY.out.2.1.2, take_erase (by rw [← HE.out.2]; exact hl)] at hz
            exact f.past z hz
          · rw [filter_adel (fun v => by simp [HY.out.2])]
            exact f.flt
      · have hb1 : (yd != d) = true := by simpa using hd
        have HY := Lib.hid (And.intro hy (show y.1.1 ≠ d by rw [← hyd]; exact hd))
        clear hd hyd hrow hy
        go_wp2
        go_roundg (m - (i + 1))
        case measure => omega
        case rel =>
          have f := F.out
          refine ⟨i + 1, n, A1, K1, S3, rfl, by go_num, by rw [← HE.out.2]; omega, f.ref, f.turn, f.n1, f.n2, f.get, fun z hz => ?_, f.flt, f.sub, f.num⟩
          rw [List.take_add_one, HY.out.1] at hz
          rcases List.mem_append.1 hz with hz | hz
          · exact f.past z hz
          · simp at hz; rw [hz]; exact HY.out.2
    · have hlt' : ¬ (i : Int) < (m : Int) := by omega
      have him : i = m := by omega
      have HI := Lib.hid him
      clear him
      go_wp2
      go_ret
      have f := F.out
      have hall : ∀ z ∈ A1, z.1.1 ≠ d := fun z hz => by
        have e := (mem_iff_get f.n1 z.1 z.2).1 hz
        rw [← f.get] at e
        exact f.past z (by rw [List.take_of_length_le (by rw [← HE.out.2, HI.out]; omega)]; exact (mem_iff_get f.n2 z.1 z.2).2 e)
      have e1 : A1 = A.filter fun y => decide (y.1.1 ≠ d) := by
        rw [← f.flt]
        exact (List.filter_eq_self.2 (fun z hz => by simpa using hall z hz)).symm
      have e2 : (n : Int) = (forgetA A d).2 := by
        have := filt_len A d
        rw [← e1] at this
        show (n : Int) = ((A.filter fun y => decide (y.1.1 = d)).length : Int)
        omega
      rw [← e2]
      refine ⟨rfl, S3, ⟨H.out.ok.forget d, fun z hz => H.out.small z (List.mem_filter.1 hz).1, K1, ?_, f.n2, fun z => ?_⟩, f.turn⟩
      · show RefC wo rb S3 most (lru8 (A.filter fun y => decide (y.1.1 ≠ d))) K1
        rw [← e1]; exact f.ref
      · show aget K1 z = aget (A.filter fun y => decide (y.1.1 ≠ d)) z
        rw [← e1]; exact f.get z

end Go.Proofs.YtjicoebcmfnooaaDoor
