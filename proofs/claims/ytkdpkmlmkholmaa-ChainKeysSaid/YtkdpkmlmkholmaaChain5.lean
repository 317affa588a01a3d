/-
  Drop, in one word.
-/
import Derived.Test.YtkdpkmlmkholmaaChain4
namespace Go.Proofs.Ytkdpkmlmkholmaa
open Go Go.RowKit
set_option linter.unusedSectionVars false
set_option linter.unusedSimpArgs false
set_option linter.unusedVariables false

theorem chainOf_nodup {T : List Pair} (hn : (T.map Prod.fst).Nodup) (m i : Nat) : ((chainOf T m i).map Prod.fst).Nodup := by
  unfold chainOf
  rw [List.map_reverse]
  exact (List.reverse_perm _).nodup_iff.2 (hn.sublist (List.filter_sublist.map _))

theorem filt_mid {L p r : List (Nat × Pair)} {x : Nat × Pair} {key : ByteArray} (hL : L = p ++ x :: r) (hn : ((L.map Prod.snd).map Prod.fst).Nodup) (hx : x.2.1 = key) : (L.map Prod.snd).filter (other key) = (p ++ r).map Prod.snd := by
  subst hL
  simp only [List.map_append, List.map_cons] at hn
  obtain ⟨n1, n2, n3⟩ := List.nodup_append.1 hn
  simp only [List.nodup_cons] at n2
  have ho : other key x.2 = false := by simp [other, hx]
  simp only [List.map_append, List.map_cons, List.filter_append, List.filter_cons, ho, Bool.false_eq_true, if_false]
  congr 1
  · rw [List.filter_eq_self]
    intro y hy
    have : y.1 ≠ key := by
      intro e
      exact n3 _ (List.mem_map_of_mem (f := Prod.fst) hy) x.2.1 (by simp) (by rw [e, hx])
    simp [other, this]
  · rw [List.filter_eq_self]
    intro y hy
    have : y.1 ≠ key := by
      intro e
      exact n2.1 (by rw [hx, ← e]; exact List.mem_map_of_mem (f := Prod.fst) hy)
    simp [other, this]

theorem filt_none {L : List Pair} {key : ByteArray} (h : ∀ y ∈ L, y.1 ≠ key) : L.filter (other key) = L := by
  rw [List.filter_eq_self]
  intro y hy
  simp [other, h y hy]

theorem drop_world {w w3 : World} {tb cb pb po : Nat} {S : Nat → Prop} {m : Nat} {T : List Pair} {hd : Nat → Option Nat} {Ls : Nat → List (Nat × Pair)} {i : Nat} (h : TabAt w tb S m T) (hm : TabMem w tb cb m T.length hd)
    (hseg : ∀ i, i < m → Seg w (hd i) (Ls i)) (hv : ∀ i, i < m → (Ls i).map Prod.snd = chainOf T m i) (s1 : S tb) (s2 : S cb) (s3 : ∀ i, i < m → ∀ x ∈ Ls i, S x.1) (key : ByteArray) (v : Int) (hi : bucket m key = i) (hb : i < m)
    (hg : aget T key = some v) {pre rest : List (Nat × Pair)} {x : Nat × Pair} {o : Option Nat} (hL : Ls i = pre ++ x :: rest) (hk : x.2 = (key, v)) (hp : Place cb i pre pb po) (hx : Seg w (some x.1) (x :: rest)) (hr : Seg w o rest)
    (hc : w.cell? ⟨pb, po, none⟩ = some (pnt (some x.1)))
    (t3 : w3.heap[tb]? = some (.cells #[.slice (some ⟨cb, 0, none⟩) m m, .int .i64 (T.length - 1)] 58 (0, 0)))
    (c3 : ∀ c t, w.heap[pb]? = some (.cells c t (0, 0)) → w3.heap[pb]? = some (.cells (c.setIfInBounds po (pnt o)) t (0, 0))) (K : Keep w w3 (fun b => b = pb ∨ b = tb)) :
    TabAt w3 tb S m (adel T key) ∧ Turn w S w3 S ∧ ∀ o P, Seg w o P → ∃ P', Seg w3 o P' ∧ P'.Sublist P ∧ ∀ y ∈ P, y.2.1 ≠ key → y ∈ P' := by
  have hlen := adel_len hg
  have hkey : x.2.1 = key := by rw [hk]
  have hnd : ((adel T key).map Prod.fst).Nodup := h.nodup.sublist ((adel_sub _ _).map _)
  have hkn : ∀ j, j < m → (((Ls j).map Prod.snd).map Prod.fst).Nodup := fun j hj => by rw [hv j hj]; exact chainOf_nodup h.nodup m j
  have hoth : ∀ j, j < m → j ≠ i → ∀ y ∈ (Ls j).map Prod.snd, y.1 ≠ key := by
    intro j hj hji y hy e
    rw [hv j hj] at hy
    have := (mem_chainOf.1 hy).2
    rw [e, bucket_eq h.m1, hi] at this
    omega
  have hsame : ∀ j, j < m → j ≠ i → (Ls j).map Prod.snd = chainOf (adel T key) m j := by
    intro j hj hji
    rw [chainOf_del h.nodup, ← hv j hj, filt_none (hoth j hj hji)]
  rcases hp with ⟨rfl, rfl, rfl⟩ | ⟨z, pre', rfl, rfl, rfl⟩
  · have hs : ∀ o P, Seg w o P → Seg w3 o P := fun o P q => q.keep K (q.apart hm)
    refine ⟨⟨⟨pb, fun j => if j = po then o else hd j, fun j => if j = po then rest else Ls j, ⟨by rw [t3, show ((T.length : Int) - 1) = ((adel T key).length : Nat) from by omega], by rw [c3 _ _ hm.c, row_set]⟩, ?_, ?_, s1, s2, ?_⟩, fun b q => Nat.lt_of_lt_of_le (h.lt b q) K.size, hnd, by have := h.len; omega, h.m1, h.m64⟩, ⟨K.mono (fun b q => by rcases q with rfl | rfl <;> assumption), fun b q => .inl q⟩, fun o P q => ⟨P, hs o P q, List.Sublist.refl _, fun y hy _ => hy⟩⟩
    · intro j hj
      by_cases e : j = po
      · simp only [e, if_true]; exact hs _ _ hr
      · simp only [e, if_false]; exact hs _ _ (hseg j hj)
    · intro j hj
      by_cases e : j = po
      · subst e
        simp only [if_true]
        rw [chainOf_del h.nodup, ← hv _ hj, filt_mid hL (hkn _ hj) hkey]
        simp
      · simp only [e, if_false]; exact hsame j hj e
    · intro j hj y hy
      by_cases e : j = po
      · subst e
        simp only [if_true] at hy
        exact s3 _ hj y (by rw [hL]; simp [hy])
      · simp only [e, if_false] at hy
        exact s3 j hj y hy
  · have hzi : z ∈ Ls i := by rw [hL]; simp
    obtain ⟨o1, hz⟩ := Seg.at (hseg i hb) z hzi
    have ho1 : pnt o1 = pnt (some x.1) := by
      rw [cell_blk hz] at hc
      simpa using hc
    rw [ho1] at hz
    have hz3 := c3 _ _ hz
    have hcut := seg_cut (w3 := w3) (o' := o) (U := fun b => b = tb) hz hx hr (by rw [hz3]; rfl) K (fun o P q y hy e => (q.apart hm) y hy (.inr e))
    have htc : cb ≠ tb := by
      rintro rfl
      have := hm.t.symm.trans hm.c
      simp at this
    have hzc : cb ≠ z.1 := by
      intro e
      rw [← e, hm.c] at hz
      simp at hz
    obtain ⟨Pi, hPi, hcase⟩ := hcut _ _ (hseg i hb)
    obtain ⟨p, r, hpr, rfl⟩ := (hcase.resolve_right (fun q => q.1 hzi)).2
    refine ⟨⟨⟨cb, hd, fun j => if j = i then p ++ r else Ls j, ⟨by rw [t3, show ((T.length : Int) - 1) = ((adel T key).length : Nat) from by omega], K.get hm.c (fun q => q.elim hzc htc)⟩, ?_, ?_, s1, s2, ?_⟩, fun b q => Nat.lt_of_lt_of_le (h.lt b q) K.size, hnd, by have := h.len; omega, h.m1, h.m64⟩, ⟨K.mono (fun b q => by rcases q with rfl | rfl; exact s3 i hb z hzi; assumption), fun b q => .inl q⟩, ?_⟩
    · intro j hj
      by_cases e : j = i
      · subst e
        simp only [if_true]; exact hPi
      · simp only [e, if_false]
        obtain ⟨Q, hQ, hq⟩ := hcut _ _ (hseg j hj)
        rcases hq with ⟨_, p1, r1, h1, _⟩ | ⟨_, rfl⟩
        · exact absurd hkey (hoth j hj e x.2 (by rw [h1]; simp))
        · exact hQ
    · intro j hj
      by_cases e : j = i
      · subst e
        simp only [if_true]
        rw [chainOf_del h.nodup, ← hv _ hj, filt_mid hpr (hkn _ hj) hkey]
      · simp only [e, if_false]; exact hsame j hj e
    · intro j hj y hy
      by_cases e : j = i
      · subst e
        simp only [if_true] at hy
        refine s3 _ hj y ?_
        rw [hpr]
        rcases List.mem_append.1 hy with q | q
        · simp [q]
        · simp [q]
      · simp only [e, if_false] at hy
        exact s3 j hj y hy
    · intro o2 P hP
      obtain ⟨Q, hQ, hq⟩ := hcut _ _ hP
      rcases hq with ⟨_, p1, r1, rfl, rfl⟩ | ⟨_, rfl⟩
      · refine ⟨_, hQ, (List.Sublist.refl p1).append (List.sublist_cons_self _ _), fun y hy hne => ?_⟩
        rcases List.mem_append.1 hy with q | q
        · simp [q]
        · rcases List.mem_cons.1 q with rfl | q
          · exact absurd hkey hne
          · simp [q]
      · exact ⟨_, hQ, List.Sublist.refl _, fun y hy _ => hy⟩

theorem drop_c {w : World} {tb : Nat} {S : Nat → Prop} {m : Nat} {T : List Pair} (h : TabAt w tb S m T) (key : ByteArray) (hs : key.size ≤ 9223372036854775807) :
    Calls Try.prog 10 #[.pointer (some ⟨tb, 0, none⟩), .string key] w fun r w' => r = .returned (.tuple #[.int .i64 (dropT T key).2.1, .int .i64 (dropT T key).2.2]) ∧
      ∃ S', TabAt w' tb S' m (dropT T key).1 ∧ Turn w S w' S' ∧ ∀ o P, Seg w o P → ∃ P', Seg w' o P' ∧ P'.Sublist P ∧ ∀ y ∈ P, y.2.1 ≠ key → y ∈ P' := by
  unfold dropT
  cases hg : aget T key with
  | none =>
    refine (drop_none h key hs hg).mono ?_
    rintro e w' ⟨rfl, q, rfl⟩
    exact ⟨rfl, S, h.keep (Turn.drewN w (fun _ => False) q).keep (fun b _ z => z), Turn.drewN _ _ _, fun o P z => ⟨P, z.keep (Turn.drewN w (fun _ => False) q).keep (fun _ _ z => z), List.Sublist.refl _, fun y hy _ => hy⟩⟩
  | some v =>
    obtain ⟨cb, hd, Ls, hm, hseg, hv, s1, s2, s3⟩ := h.ex
    have hb := bucket_lt key h.m1
    have hf := find_some hm h.m1 h.m64 key hs (hseg _ hb) (hv _ hb) h.nodup hg
    have htc : tb ≠ cb := by
      rintro rfl
      have := hm.t.symm.trans hm.c
      simp at this
    have hlen := adel_len hg
    refine (drop_walk (cb := cb) (m := m) key v h.len (by omega) (R := fun o x pb po => ∃ pre rest, Ls (bucket m key) = pre ++ x :: rest ∧ x.2 = (key, v) ∧ Place cb (bucket m key) pre pb po ∧ Seg w (some x.1) (x :: rest) ∧ Seg w o rest ∧ w.cell? ⟨pb, po, none⟩ = some (pnt (some x.1)) ∧ tb ≠ pb)
      (hf.mono ?_) (by rw [cell_blk hm.t]; rfl) (free_blk hm.t _)).mono ?_
    · rintro r w' ⟨pre, x, rest, pb, po, rfl, hL, hk, hp, hc, hx, hq⟩
      have hx' := hx
      obtain ⟨_, o, hxc, hr⟩ := hx
      have hxm : x ∈ Ls (bucket m key) := by rw [hL]; simp
      have hxa := (hseg _ hb).apart hm x hxm
      have hpb : x.1 ≠ pb ∧ tb ≠ pb ∧ w.frozen? ⟨pb, po, none⟩ = false := by
        rcases hp with ⟨rfl, rfl, rfl⟩ | ⟨z, pre', rfl, rfl, rfl⟩
        · exact ⟨fun e => hxa (.inl e), htc, free_blk hm.c _⟩
        · have hzm : z ∈ Ls (bucket m key) := by rw [hL]; simp
          obtain ⟨o1, hz⟩ := Seg.at (hseg _ hb) z hzm
          refine ⟨fun e => ?_, fun e => (hseg _ hb).apart hm z hzm (.inr e.symm), free_blk hz _⟩
          have hn := Seg.nodup (hseg _ hb)
          rw [hL] at hn
          simp only [List.map_append, List.map_cons, List.map_nil, List.append_assoc] at hn
          have := (List.nodup_append.1 (List.nodup_append.1 hn).2.1).2.2 z.1 (by simp) x.1 (by simp)
          exact this e.symm
      refine ⟨o, x, pb, po, rfl, ⟨pre, rest, hL, hk, hp, hx', hr, hc, hpb.2.1⟩, hq, by simpa [pnt] using hc, hpb.2.2, ?_, ?_, hpb.1, hpb.2.1, fun e => hxa (.inr e)⟩
      · rw [cell_blk hxc, hk]; rfl
      · rw [cell_blk hxc]; rfl
    · rintro r w' ⟨rfl, o, x, pb, po, ⟨pre, rest, hL, hk, hp, hx, hr, hc, htp⟩, w2, he, hk2, rfl⟩
      refine ⟨rfl, S, drop_world h hm hseg hv s1 s2 s3 key v rfl hb hg hL hk hp hx hr hc ?_ ?_ ?_⟩
      · exact heap_setCell_eq _ ((heap_setCell_ne w2 ⟨pb, po, none⟩ _ htp).trans (by rw [he]; exact hm.t))
      · intro c t hc2
        exact (heap_setCell_ne _ ⟨tb, 1, none⟩ _ (fun e => htp e.symm)).trans (heap_setCell_eq _ (by rw [he]; exact hc2))
      · exact ((hk2.mono (fun b q => q.elim)).trans (Keep.setCell _ _ _) (fun b q => .inl (.inl q))).trans (Keep.setCell _ _ _) (fun b q => .inl (.inr q))

end Go.Proofs.Ytkdpkmlmkholmaa
