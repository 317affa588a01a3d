/-
  Put.
-/
import Derived.Test.YtkdpkmlmkholmaaChain2
namespace Go.Proofs.Ytkdpkmlmkholmaa
open Go Go.RowKit
set_option linter.unusedSectionVars false
set_option linter.unusedSimpArgs false
set_option linter.unusedVariables false

def putT (T : List Pair) (key : ByteArray) (v : Int) : List Pair × Int :=
  match aget T key with
  | some _ => (T, 15)
  | none => if 64 ≤ T.length then (T, 13) else (T ++ [(key, v)], 0)

theorem chainOf_snoc (T : List Pair) (m i : Nat) (key : ByteArray) (v : Int) (hm : 1 ≤ m) : chainOf (T ++ [(key, v)]) m i = if i = bucket m key then (key, v) :: chainOf T m i else chainOf T m i := by
  unfold chainOf
  rw [List.filter_append, List.reverse_append]
  have e : inChain m i (key, v) = decide (i = bucket m key) := by
    unfold inChain
    rw [bucket_eq hm]
    by_cases h : i = bucket m key
    · rw [h]; simp
    · simp [h]; omega
  simp only [List.filter_cons, List.filter_nil, e]
  by_cases h : i = bucket m key
  · simp [h]
  · simp [h]

theorem Seg.apart {w : World} {tb cb m n : Nat} {hd : Nat → Option Nat} (hm : TabMem w tb cb m n hd) {o : Option Nat} {P : List (Nat × Pair)} (h : Seg w o P) : ∀ x ∈ P, ¬ (x.1 = cb ∨ x.1 = tb) := by
  intro x hx q
  obtain ⟨o', ho⟩ := Seg.at h x hx
  rcases q with q | q
  · rw [q, hm.c] at ho
    simp at ho
  · rw [q, hm.t] at ho
    simp at ho

theorem pget_snoc {T : List Pair} {key : ByteArray} {v : Int} (hn : (T.map Prod.fst).Nodup) (hg : aget T key = none) : ((T ++ [(key, v)]).map Prod.fst).Nodup := by
  rw [List.map_append]
  refine List.nodup_append.2 ⟨hn, by simp, fun a ha b hb e => ?_⟩
  simp at hb
  obtain ⟨x, hx, rfl⟩ := List.mem_map.1 ha
  exact pget_none hg x hx (e.trans hb)

theorem row_set (m : Nat) (hd : Nat → Option Nat) (i : Nat) (o : Option Nat) : (((List.range m).map fun j => pnt (hd j)).toArray).setIfInBounds i (pnt o) = ((List.range m).map fun j => pnt (if j = i then o else hd j)).toArray := by
  apply Array.ext
  · simp
  · intro j h1 h2
    simp only [Array.size_setIfInBounds, List.size_toArray, List.length_map, List.length_range] at h1
    rw [Array.getElem_setIfInBounds (by simpa using h1)]
    by_cases h : i = j
    · subst h; simp
    · have h' : ¬ j = i := fun e => h e.symm
      simp [h, h']

theorem put_world {w w3 : World} {tb cb nb : Nat} {S : Nat → Prop} {m : Nat} {T : List Pair} {hd : Nat → Option Nat} {Ls : Nat → List (Nat × Pair)} {i : Nat} (h : TabAt w tb S m T) (hm : TabMem w tb cb m T.length hd)
    (hseg : ∀ i, i < m → Seg w (hd i) (Ls i)) (hv : ∀ i, i < m → (Ls i).map Prod.snd = chainOf T m i) (s1 : S tb) (s2 : S cb) (s3 : ∀ i, i < m → ∀ x ∈ Ls i, S x.1) (key : ByteArray) (v : Int) (hi : bucket m key = i) (hb : i < m)
    (hg : aget T key = none) (hl : T.length < 64)
    (t3 : w3.heap[tb]? = some (.cells #[.slice (some ⟨cb, 0, none⟩) m m, .int .i64 (T.length + 1)] 58 (0, 0)))
    (c3 : w3.heap[cb]? = some (.cells ((((List.range m).map fun j => pnt (hd j)).toArray).setIfInBounds i (pnt (some nb))) 64 (0, 0)))
    (n3 : w3.heap[nb]? = some (.cells #[.string key, .int .i64 v, pnt (hd i)] 66 (0, 0))) (hnb : w.heap.size ≤ nb) (K : Keep w w3 (fun b => b = cb ∨ b = tb)) :
    ∃ S', TabAt w3 tb S' m (T ++ [(key, v)]) ∧ Turn w S w3 S' ∧ ∀ o P, Seg w o P → Seg w3 o P := by
  have hs : ∀ o P, Seg w o P → Seg w3 o P := fun o P q => q.keep K (q.apart hm)
  refine ⟨fun b => S b ∨ b = nb, ⟨⟨cb, fun j => if j = i then some nb else hd j, fun j => if j = i then (nb, key, v) :: Ls i else Ls j, ⟨by rw [t3]; simp, by rw [c3, row_set]⟩, ?_, ?_, .inl s1, .inl s2, ?_⟩, ?_, pget_snoc h.nodup hg, by simp; omega, h.m1, h.m64⟩, ⟨K.mono (fun b q => by rcases q with rfl | rfl <;> assumption), ?_⟩, hs⟩
  · intro j hj
    by_cases e : j = i
    · subst e
      simp only [if_true]
      exact ⟨rfl, _, n3, hs _ _ (hseg _ hj)⟩
    · simp only [e, if_false]
      exact hs _ _ (hseg _ hj)
  · intro j hj
    rw [chainOf_snoc T m j key v h.m1, hi]
    by_cases e : j = i
    · subst e
      simp only [if_true, List.map_cons, hv _ hj]
    · simp only [e, if_false, hv _ hj]
  · intro j hj x hx
    by_cases e : j = i
    · subst e
      simp only [if_true] at hx
      rcases List.mem_cons.1 hx with rfl | hx
      · exact .inr rfl
      · exact .inl (s3 _ hj x hx)
    · simp only [e, if_false] at hx
      exact .inl (s3 _ hj x hx)
  · intro b q
    rcases q with q | rfl
    · exact Nat.lt_of_lt_of_le (h.lt b q) K.size
    · exact (Array.getElem?_eq_some_iff.1 n3).1
  · intro b q
    rcases q with q | rfl
    · exact .inl q
    · exact .inr hnb

set_option maxHeartbeats 1000000 in
theorem put_new {w : World} {tb : Nat} {S : Nat → Prop} {m : Nat} {T : List Pair} (h : TabAt w tb S m T) (key : ByteArray) (v : Int) (hs : key.size ≤ 9223372036854775807) (hg : aget T key = none) (hl : T.length < 64) :
    Calls Try.prog 12 #[.pointer (some ⟨tb, 0, none⟩), .string key, .int .i64 v] w fun r w' => r = .returned (.int .i64 0) ∧ ∃ S', TabAt w' tb S' m (T ++ [(key, v)]) ∧ Turn w S w' S' ∧ ∀ o P, Seg w o P → Seg w' o P := by
  obtain ⟨cb, hd, Ls, hm, hseg, hv, s1, s2, s3⟩ := h.ex
  have hb := bucket_lt key h.m1
  have hf := find_none hm h.m1 h.m64 key hs (hseg _ hb) (hv _ hb) hg
  have hc := fun q => chain_c (w := w.drewN q) (tb := tb) (cb := cb) (n := T.length) (hd := hd) ⟨hm.t, hm.c⟩ h.m1 h.m64 key hs
  have c1 : w.cell? ⟨tb, 1, none⟩ = some (.int .i64 T.length) := by rw [cell_blk hm.t]; rfl
  have ch := hm.head hb
  have f1 : w.frozen? ⟨cb, bucket m key, none⟩ = false := free_blk hm.c _
  have f2 : w.frozen? ⟨tb, 1, none⟩ = false := free_blk hm.t _
  have sc : cb < w.heap.size := h.lt _ s2
  have st : tb < w.heap.size := h.lt _ s1
  have hl' : ¬ (64 : Int) ≤ T.length := by omega
  have htc : tb ≠ cb := by
    rintro rfl
    have := hm.t.symm.trans hm.c
    simp at this
  have A := Lib.hid (And.intro h (And.intro hm (And.intro hseg (And.intro hv (And.intro s1 (And.intro s2 (And.intro s3 hb)))))))
  have hg' := Lib.hid hg
  clear h hm hseg hv s1 s2 s3 hg
  generalize hi : bucket m key = i at *
  have hi' := Lib.hid hi
  clear hi hb
  unfold pnt at ch
  go_enter Try.func12, Try.ntmps12
  go_wp2_with (first
    | (go_at_call 29
       refine hf.mono ?_
       rintro e w1 ⟨rfl, q, rfl⟩)
    | (go_at_call 31
       refine (hc q).mono ?_
       rintro e w2 ⟨rfl, q2, hw2⟩
       have c1' : w2.cell? ⟨tb, 1, none⟩ = some (.int .i64 T.length) := by rw [hw2]; exact c1
       have ch' : w2.cell? ⟨cb, i, none⟩ = some (.pointer ((hd i).map fun b => ⟨b, 0, none⟩)) := by rw [hw2]; exact ch
       have f1' : w2.frozen? ⟨cb, i, none⟩ = false := by rw [hw2]; exact f1
       have f2' : w2.frozen? ⟨tb, 1, none⟩ = false := by rw [hw2]; exact f2
       have sc' : cb < w2.heap.size := by rw [hw2]; exact sc
       have st' : tb < w2.heap.size := by rw [hw2]; exact st
       have E2 := Lib.hid (show w2.heap = w.heap ∧ Keep w w2 (fun _ => False) from by rw [hw2, World.drewN_drewN]; exact ⟨rfl, (Turn.drewN w _ _).keep⟩)
       clear hw2))
  go_ret
  obtain ⟨he, hk⟩ := E2.out
  obtain ⟨h, hm, hseg, hv, s1, s2, s3, hb⟩ := A.out
  have g1 : w2.heap[cb]? = some (.cells ((List.range m).map fun i => pnt (hd i)).toArray 64 (0, 0)) := by rw [he]; exact hm.c
  have g2 : w2.heap[tb]? = some (.cells #[.slice (some ⟨cb, 0, none⟩) m m, .int .i64 T.length] 58 (0, 0)) := by rw [he]; exact hm.t
  refine ⟨rfl, put_world (nb := w2.heap.size) h hm hseg hv s1 s2 s3 key v hi'.out hb hg'.out hl ?_ ?_ ?_ (by rw [he]; exact Nat.le_refl _) ?_⟩
  · rw [(Keep.alloc _ _ (fun _ => False)).get (heap_setCell_eq _ ((heap_setCell_ne _ _ _ htc).trans g2)) (fun q => q)]
    rfl
  · rw [(Keep.alloc _ _ (fun _ => False)).get ((heap_setCell_ne _ _ _ (fun e => htc e.symm)).trans (heap_setCell_eq _ g1)) (fun q => q)]
    rfl
  · have := heap_alloc_eq ((w2.setCell ⟨cb, i, none⟩ (.pointer (some ⟨w2.heap.size, 0, none⟩))).setCell ⟨tb, 1, none⟩ (.int .i64 (T.length + 1))) (.cells #[.string key, .int .i64 v, pnt (hd i)] 66)
    simpa [pnt] using this
  · exact ((((hk.mono (fun b q => q.elim)).trans (Keep.setCell _ _ _) (fun b q => .inl (.inl q))).trans (Keep.setCell _ _ _) (fun b q => .inl (.inr q))).trans (Keep.alloc _ _ (fun _ => False)) (fun b q => q.elim))

theorem put_busy {w : World} {tb : Nat} {S : Nat → Prop} {m : Nat} {T : List Pair} (h : TabAt w tb S m T) (key : ByteArray) (v : Int) (hs : key.size ≤ 9223372036854775807) {u : Int} (hg : aget T key = some u) :
    Calls Try.prog 12 #[.pointer (some ⟨tb, 0, none⟩), .string key, .int .i64 v] w fun r w' => r = .returned (.int .i64 15) ∧ ∃ q, w' = w.drewN q := by
  obtain ⟨cb, hd, Ls, hm, hseg, hv, s1, s2, s3⟩ := h.ex
  have hb := bucket_lt key h.m1
  have hf := find_some hm h.m1 h.m64 key hs (hseg _ hb) (hv _ hb) h.nodup hg
  clear hm hseg hv s1 s2 s3 hg h hb
  go_enter Try.func12, Try.ntmps12
  go_wp2_with (
    go_at_call 29
    refine hf.mono ?_
    rintro e w1 ⟨pre, x, rest, pb, po, rfl, _, _, _, _, _, q, rfl⟩)
  go_ret
  exact ⟨rfl, q, rfl⟩

theorem put_full {w : World} {tb : Nat} {S : Nat → Prop} {m : Nat} {T : List Pair} (h : TabAt w tb S m T) (key : ByteArray) (v : Int) (hs : key.size ≤ 9223372036854775807) (hg : aget T key = none) (hl : 64 ≤ T.length) :
    Calls Try.prog 12 #[.pointer (some ⟨tb, 0, none⟩), .string key, .int .i64 v] w fun r w' => r = .returned (.int .i64 13) ∧ ∃ q, w' = w.drewN q := by
  obtain ⟨cb, hd, Ls, hm, hseg, hv, s1, s2, s3⟩ := h.ex
  have hb := bucket_lt key h.m1
  have hf := find_none hm h.m1 h.m64 key hs (hseg _ hb) (hv _ hb) hg
  have c1 : w.cell? ⟨tb, 1, none⟩ = some (.int .i64 T.length) := by rw [cell_blk hm.t]; rfl
  have hl' : (64 : Int) ≤ T.length := by omega
  clear hm hseg hv s1 s2 s3 hg h hb
  go_enter Try.func12, Try.ntmps12
  go_wp2_with (
    go_at_call 29
    refine hf.mono ?_
    rintro e w1 ⟨rfl, q, rfl⟩)
  go_ret
  exact ⟨rfl, q, rfl⟩

theorem put_c {w : World} {tb : Nat} {S : Nat → Prop} {m : Nat} {T : List Pair} (h : TabAt w tb S m T) (key : ByteArray) (v : Int) (hs : key.size ≤ 9223372036854775807) :
    Calls Try.prog 12 #[.pointer (some ⟨tb, 0, none⟩), .string key, .int .i64 v] w fun r w' => r = .returned (.int .i64 (putT T key v).2) ∧ ∃ S', TabAt w' tb S' m (putT T key v).1 ∧ Turn w S w' S' ∧ ∀ o P, Seg w o P → Seg w' o P := by
  unfold putT
  cases hg : aget T key with
  | some u =>
    refine (put_busy h key v hs hg).mono ?_
    rintro e w' ⟨rfl, q, rfl⟩
    exact ⟨rfl, S, h.keep (Turn.drewN w (fun _ => False) q).keep (fun b _ z => z), Turn.drewN _ _ _, fun o P z => z.keep (Turn.drewN w (fun _ => False) q).keep (fun _ _ z => z)⟩
  | none =>
    by_cases hl : 64 ≤ T.length
    · refine (put_full h key v hs hg hl).mono ?_
      rintro e w' ⟨rfl, q, rfl⟩
      simp only [hl, if_true]
      exact ⟨trivial, S, h.keep (Turn.drewN w (fun _ => False) q).keep (fun b _ z => z), Turn.drewN _ _ _, fun o P z => z.keep (Turn.drewN w (fun _ => False) q).keep (fun _ _ z => z)⟩
    · simp only [hl, if_false]
      exact put_new h key v hs hg (by omega)

end Go.Proofs.Ytkdpkmlmkholmaa
