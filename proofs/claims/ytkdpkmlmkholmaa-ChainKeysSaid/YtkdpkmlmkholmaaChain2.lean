/-
  The table: what it holds; New; where a key hangs that is there, or is not.
-/
import Derived.Test.YtkdpkmlmkholmaaChain1
namespace Go.Proofs.Ytkdpkmlmkholmaa
open Go Go.RowKit
set_option linter.unusedSectionVars false
set_option linter.unusedSimpArgs false
set_option linter.unusedVariables false

structure Turn (w : World) (S : Nat → Prop) (w' : World) (S' : Nat → Prop) : Prop where
  keep : Keep w w' S
  new : ∀ b, S' b → S b ∨ w.heap.size ≤ b

theorem Turn.refl (w : World) (S : Nat → Prop) : Turn w S w S := ⟨Keep.refl _ _, fun b q => .inl q⟩
theorem Turn.trans {w w1 w2 : World} {S S1 S2 : Nat → Prop} (h : Turn w S w1 S1) (k : Turn w1 S1 w2 S2) : Turn w S w2 S2 :=
  ⟨h.keep.trans k.keep h.new, fun b q => (k.new b q).elim (h.new b) (fun q => .inr (by have := h.keep.size; omega))⟩
theorem Turn.drewN (w : World) (S : Nat → Prop) (q : Nat) : Turn w S (w.drewN q) S := ⟨⟨Nat.le_refl _, fun _ _ _ => rfl, rfl, rfl, rfl⟩, fun b z => .inl z⟩

theorem pget_mem {T : List Pair} {k : ByteArray} {v : Int} (h : aget T k = some v) : (k, v) ∈ T := by
  induction T with
  | nil => simp [aget] at h
  | cons x r ih =>
    obtain ⟨a, u⟩ := x
    simp only [aget] at h
    split at h
    · rename_i e; simp at h; subst h; subst e; simp
    · exact List.mem_cons_of_mem _ (ih h)

theorem pget_none {T : List Pair} {k : ByteArray} (h : aget T k = none) : ∀ x ∈ T, x.1 ≠ k := by
  induction T with
  | nil => intro x hx; simp at hx
  | cons x r ih =>
    obtain ⟨a, u⟩ := x
    simp only [aget] at h
    split at h
    · simp at h
    · rename_i e
      intro y hy
      rcases List.mem_cons.1 hy with rfl | hy
      · exact e
      · exact ih h y hy

theorem pget_of_mem {T : List Pair} {k : ByteArray} {v : Int} (hn : (T.map Prod.fst).Nodup) (h : (k, v) ∈ T) : aget T k = some v := by
  cases hg : aget T k with
  | none => exact absurd rfl (pget_none hg _ h)
  | some u =>
    have h2 := pget_mem hg
    induction T with
    | nil => simp at h
    | cons x r ih =>
      simp only [List.map_cons, List.nodup_cons] at hn
      rcases List.mem_cons.1 h with rfl | h'
      · simp [aget] at hg; rw [hg]
      · obtain ⟨a, z⟩ := x
        have hne : a ≠ k := fun e => hn.1 (by have q := List.mem_map_of_mem (f := Prod.fst) h'; rw [e]; exact q)
        simp only [aget, hne, if_false] at hg
        rcases List.mem_cons.1 h2 with e | h2
        · simp at e; exact absurd e.1.symm hne
        · exact ih hn.2 h' hg h2

theorem mem_chainOf {T : List Pair} {m i : Nat} {x : Pair} : x ∈ chainOf T m i ↔ x ∈ T ∧ hashOf x.1 % m = i := by
  unfold chainOf inChain
  simp

theorem bucket_eq {m : Nat} (h : 1 ≤ m) (key : ByteArray) : hashOf key % m = bucket m key := by
  unfold bucket
  have h1 := Int.emod_nonneg (hashOf key) (b := m) (by omega)
  omega

structure TabAt (w : World) (tb : Nat) (S : Nat → Prop) (m : Nat) (T : List Pair) : Prop where
  ex : ∃ (cb : Nat) (hd : Nat → Option Nat) (Ls : Nat → List (Nat × Pair)), TabMem w tb cb m T.length hd ∧ (∀ i, i < m → Seg w (hd i) (Ls i)) ∧ (∀ i, i < m → (Ls i).map Prod.snd = chainOf T m i) ∧ S tb ∧ S cb ∧ ∀ i, i < m → ∀ x ∈ Ls i, S x.1
  lt : ∀ b, S b → b < w.heap.size
  nodup : (T.map Prod.fst).Nodup
  len : T.length ≤ 64
  m1 : 1 ≤ m
  m64 : m ≤ 64

theorem TabAt.keep {w w' : World} {tb : Nat} {S U : Nat → Prop} {m : Nat} {T : List Pair} (h : TabAt w tb S m T) (K : Keep w w' U) (hU : ∀ b, S b → ¬ U b) : TabAt w' tb S m T := by
  obtain ⟨cb, hd, Ls, hm, hs, hv, s1, s2, s3⟩ := h.ex
  exact ⟨⟨cb, hd, Ls, ⟨K.get hm.t (hU _ s1), K.get hm.c (hU _ s2)⟩, fun i hi => (hs i hi).keep K (fun x hx => hU _ (s3 i hi x hx)), hv, s1, s2, s3⟩, fun b q => Nat.lt_of_lt_of_le (h.lt b q) K.size, h.nodup, h.len, h.m1, h.m64⟩

theorem link_zero : ∀ w, (zeroValue 64).run Try.prog w = .ok (.pointer none) w := Try.zeroValue64

theorem link_info : ∃ i, Try.prog.info? 64 = some i ∧ i.size = 1 ∧ i.bytes ≤ 64 := by
  have h : (Try.prog.info? 64).map (fun i => (i.size, i.bytes)) = some (1, 8) := by kernel_rfl
  cases hh : Try.prog.info? 64 with
  | none => rw [hh] at h; simp at h
  | some i =>
    rw [hh] at h
    simp only [Option.map_some, Option.some.injEq, Prod.mk.injEq] at h
    exact ⟨i, rfl, h.1, by omega⟩

set_option maxHeartbeats 1000000 in
theorem new_c (w : World) (m : Nat) (h1 : 1 ≤ m) (h2 : m ≤ 64) :
    Calls Try.prog 8 #[.int .i64 m] w fun r w' => ∃ tb S, r = .returned (.tuple #[.pointer (some ⟨tb, 0, none⟩), .int .i64 0]) ∧ TabAt w' tb S m [] ∧ Turn w (fun _ => False) w' S := by
  obtain ⟨ti, hi1, hi2, hi3⟩ := link_info
  have HI := Lib.hid (And.intro hi1 (And.intro hi2 hi3))
  clear hi1 hi2 hi3
  go_enter Try.func8, Try.ntmps8
  go_wp2_with (
    at_make
    refine law_make rfl _ _ _ rfl Try.underlying56 link_zero rfl HI.out.1 HI.out.2.1 HI.out.2.2 rfl m rfl (by omega) ?_
    intro w1 cb hcb hc1 hk1
    have N1 := Lib.hid (And.intro hcb (And.intro hc1 hk1))
    clear hcb hc1 hk1)
  go_ret2
  obtain ⟨rfl, hc1, hk1⟩ := N1.out
  have hsz : w.heap.size < w1.heap.size := (Array.getElem?_eq_some_iff.1 hc1).1
  refine ⟨w1.heap.size, fun b => b = w1.heap.size ∨ b = w.heap.size, rfl, ⟨⟨w.heap.size, fun _ => none, fun _ => [], ⟨heap_alloc_eq _ _, ?_⟩, fun i _ => rfl, fun i _ => by simp [chainOf], .inl rfl, .inr rfl, fun i _ x hx => by simp at hx⟩, ?_, by simp, by simp, h1, h2⟩, ⟨hk1.trans (Keep.alloc _ _ (fun _ => False)) (fun b q => q.elim), ?_⟩⟩
  · rw [(Keep.alloc w1 _ (fun _ => False)).get hc1 (fun q => q)]
    congr 3
    apply Array.ext <;> simp [pnt]
  · intro b hb
    show b < (w1.heap.push _).size
    rw [Array.size_push]
    omega
  · intro b hb
    right; omega

theorem find_none {w : World} {tb cb m : Nat} {hd : Nat → Option Nat} {Ls : Nat → List (Nat × Pair)} {T : List Pair} (h : TabMem w tb cb m T.length hd) (h0 : 1 ≤ m) (h1 : m ≤ 64) (key : ByteArray) (hs : key.size ≤ 9223372036854775807)
    (hL : Seg w (hd (bucket m key)) (Ls (bucket m key))) (hv : (Ls (bucket m key)).map Prod.snd = chainOf T m (bucket m key)) (hg : aget T key = none) :
    Calls Try.prog 29 #[.pointer (some ⟨tb, 0, none⟩), .string key] w fun r w' => r = .returned (.pointer none) ∧ ∃ q, w' = w.drewN q := by
  refine (find_c h h0 h1 key hs hL).mono ?_
  rintro e w1 ⟨p, rfl, hF, hq⟩
  rcases hF with ⟨rfl, _⟩ | ⟨pre, x, rest, pb, po, hl, _, hk, _⟩
  · exact ⟨rfl, hq⟩
  · exfalso
    have hx : x.2 ∈ chainOf T m (bucket m key) := by rw [← hv, hl]; simp
    exact pget_none hg _ (mem_chainOf.1 hx).1 hk

theorem find_some {w : World} {tb cb m : Nat} {hd : Nat → Option Nat} {Ls : Nat → List (Nat × Pair)} {T : List Pair} (h : TabMem w tb cb m T.length hd) (h0 : 1 ≤ m) (h1 : m ≤ 64) (key : ByteArray) (hs : key.size ≤ 9223372036854775807)
    (hL : Seg w (hd (bucket m key)) (Ls (bucket m key))) (hv : (Ls (bucket m key)).map Prod.snd = chainOf T m (bucket m key)) (hn : (T.map Prod.fst).Nodup) {v : Int} (hg : aget T key = some v) :
    Calls Try.prog 29 #[.pointer (some ⟨tb, 0, none⟩), .string key] w fun r w' => ∃ pre x rest pb po, r = .returned (.pointer (some ⟨pb, po, none⟩)) ∧ Ls (bucket m key) = pre ++ x :: rest ∧ x.2 = (key, v) ∧
      Place cb (bucket m key) pre pb po ∧ w.cell? ⟨pb, po, none⟩ = some (pnt (some x.1)) ∧ Seg w (some x.1) (x :: rest) ∧ ∃ q, w' = w.drewN q := by
  refine (find_c h h0 h1 key hs hL).mono ?_
  rintro e w1 ⟨p, rfl, hF, hq⟩
  rcases hF with ⟨_, hne⟩ | ⟨pre, x, rest, pb, po, hl, _, hk, rfl, hp, hc, hseg⟩
  · exfalso
    have hx : (key, v) ∈ chainOf T m (bucket m key) := mem_chainOf.2 ⟨pget_mem hg, bucket_eq h0 key⟩
    rw [← hv] at hx
    obtain ⟨y, hy, e⟩ := List.mem_map.1 hx
    exact hne y hy (by rw [e])
  · have hx : x.2 ∈ chainOf T m (bucket m key) := by rw [← hv, hl]; simp
    have hx2 := (mem_chainOf.1 hx).1
    have e : aget T x.2.1 = some x.2.2 := pget_of_mem hn hx2
    rw [hk, hg] at e
    simp at e
    exact ⟨pre, x, rest, pb, po, rfl, hl, by rw [← hk, e], hp, hc, hseg, hq⟩

end Go.Proofs.Ytkdpkmlmkholmaa
