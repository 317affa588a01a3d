/-
  Use.
-/
import Derived.Test.YtjicoebcmfnooaaDoorLru4
import Derived.StillTailTactics
import Derived.IntWalk
import Derived.Deep.RegionWith
import Derived.Deep.RegionHeld3
import Derived.Deep.CutRange
import Derived.Deep.CutBlock
import Derived.Deep.DeepCutAuto
namespace Go.Proofs.YtjicoebcmfnooaaDoor
open Go Go.RowKit Go.Shelf
set_option linter.unusedSectionVars false
set_option linter.unusedSimpArgs false
set_option linter.unusedVariables false
attribute [local go_sem] Oper.semAt_some

def used (L : List Pair) (key : ByteArray) : List Pair := adel L key ++ [(key, (aget L key).getD 0)]

def useE (most : Int) (L : List Pair) (key : ByteArray) : List Pair × ByteArray × Bool :=
  if (used L key).length ≤ most then (used L key, ByteArray.empty, false)
  else match (looseL (used L key)).find? (fun s => decide (s ≠ key)) with
    | none => (used L key, ByteArray.empty, false)
    | some s => (adel (used L key) s, s, true)

/-- The boxes of Use. -/
structure UseW (w wx : World) (lb : Nat) (S : Nat → Prop) (most : Int) (L : List Pair) (key : ByteArray) (e : Pair) : Prop where
  keep : Keep w wx S
  list : ListAt wx lb S most L
  s0 : ∀ b, S b → b < w.heap.size ∨ w.heap.size + 5 ≤ b
  b0 : wx.heap[w.heap.size]? = some (.cells #[.pointer (some ⟨lb, 0, none⟩)] 40 (0, 0))
  b1 : wx.heap[w.heap.size + 1]? = some (.cells #[.string key] 9 (0, 0))
  b2 : wx.heap[w.heap.size + 1 + 1]? = some (.cells #[.string ByteArray.empty] 9 (0, 0))
  b3 : wx.heap[w.heap.size + 1 + 1 + 1]? = some (.cells #[.bool false] 4 (0, 0))
  b4 : wx.heap[w.heap.size + 1 + 1 + 1 + 1]? = some (.cells #[.string e.1, .int .i64 e.2] 72 (0, 0))

section
variable {w wx wy : World} {lb : Nat} {S : Nat → Prop} {most : Int} {L L' : List Pair} {key : ByteArray} {e : Pair}

theorem UseW.turn (h : UseW w wx lb S most L key e) (k : Keep wx wy S) (hl : ListAt wy lb S most L') : UseW w wy lb S most L' key e :=
  ⟨h.keep.trans k (fun b q => .inl q), hl, h.s0, k.get h.b0 (fun q => by have := h.s0 _ q; omega), k.get h.b1 (fun q => by have := h.s0 _ q; omega), k.get h.b2 (fun q => by have := h.s0 _ q; omega), k.get h.b3 (fun q => by have := h.s0 _ q; omega), k.get h.b4 (fun q => by have := h.s0 _ q; omega)⟩

theorem UseW.aside (h : UseW w wx lb S most L key e) (k : Keep wx wy (fun _ => False)) : UseW w wy lb S most L key e := h.turn (k.mono fun _ q => q.elim) (h.list.aside k)

theorem useW_start (h : ListAt w lb S most L) : UseW w (((((w.alloc (.cells #[.pointer (some ⟨lb, 0, none⟩)] 40)).alloc (.cells #[.string key] 9)).alloc (.cells #[.string ⟨#[]⟩] 9)).alloc (.cells #[.bool false] 4)).alloc (.cells #[.string key, .int .i64 0] 72)) lb S most L key (key, 0) := by
  have k1 := Keep.alloc w (.cells #[.pointer (some ⟨lb, 0, none⟩)] 40) (fun _ => False)
  have g1 := heap_alloc_eq w (.cells #[.pointer (some ⟨lb, 0, none⟩)] 40)
  have z1 : (w.alloc (.cells #[.pointer (some ⟨lb, 0, none⟩)] 40)).heap.size = w.heap.size + 1 := by simp
  generalize w.alloc (.cells #[.pointer (some ⟨lb, 0, none⟩)] 40) = w1 at *
  have k2 := Keep.alloc w1 (.cells #[.string key] 9) (fun _ => False)
  have g2 := heap_alloc_eq w1 (.cells #[.string key] 9)
  have z2 : (w1.alloc (.cells #[.string key] 9)).heap.size = w1.heap.size + 1 := by simp
  generalize w1.alloc (.cells #[.string key] 9) = w2 at *
  have k3 := Keep.alloc w2 (.cells #[.string ⟨#[]⟩] 9) (fun _ => False)
  have g3 := heap_alloc_eq w2 (.cells #[.string ⟨#[]⟩] 9)
  have z3 : (w2.alloc (.cells #[.string ⟨#[]⟩] 9)).heap.size = w2.heap.size + 1 := by simp
  generalize w2.alloc (.cells #[.string ⟨#[]⟩] 9) = w3 at *
  have k4 := Keep.alloc w3 (.cells #[.bool false] 4) (fun _ => False)
  have g4 := heap_alloc_eq w3 (.cells #[.bool false] 4)
  have z4 : (w3.alloc (.cells #[.bool false] 4)).heap.size = w3.heap.size + 1 := by simp
  generalize w3.alloc (.cells #[.bool false] 4) = w4 at *
  have k5 := Keep.alloc w4 (.cells #[.string key, .int .i64 0] 72) (fun _ => False)
  have g5 := heap_alloc_eq w4 (.cells #[.string key, .int .i64 0] 72)
  generalize w4.alloc (.cells #[.string key, .int .i64 0] 72) = w5 at *
  rw [z1] at z2 g2; rw [z2] at z3 g3; rw [z3] at z4 g4; rw [z4] at g5
  have f : ∀ b, (fun _ : Nat => False) b → (fun _ : Nat => False) b ∨ w.heap.size ≤ b := fun _ q => q.elim
  have k25 := k2.trans (k3.trans (k4.trans k5 (fun _ q => q.elim)) (fun _ q => q.elim)) (fun _ q => q.elim)
  have k35 := k3.trans (k4.trans k5 (fun _ q => q.elim)) (fun _ q => q.elim)
  have k45 := k4.trans k5 (fun _ q => q.elim)
  have k15 := k1.trans k25 (fun _ q => q.elim)
  exact ⟨k15.mono (fun _ q => q.elim), h.aside k15, fun b q => .inl (h.lt b q), k25.get g1 (fun q => q), k35.get g2 (fun q => q), k45.get g3 (fun q => q), k5.get g4 (fun q => q), g5⟩

theorem UseW.far {B : Nat} {C : Nat → Prop} (h : UseW w wx lb S most L key e) (hB : ∀ b, S b → b < B) (hB5 : w.heap.size + 5 ≤ B) (k : Keep wx wy (fun b => B ≤ b ∧ C b)) : UseW w wy lb S most L key e :=
  ⟨h.keep.trans k (fun b q => .inr (by have := q.1; omega)), h.list.keep k (fun b q z => by have := hB b q; have := z.1; omega), h.s0, k.get h.b0 (fun z => by have := z.1; omega), k.get h.b1 (fun z => by have := z.1; omega), k.get h.b2 (fun z => by have := z.1; omega), k.get h.b3 (fun z => by have := z.1; omega), k.get h.b4 (fun z => by have := z.1; omega)⟩

/-- Behind Use: its results in their boxes. -/
structure UseX (w wx : World) (lb : Nat) (S : Nat → Prop) (most : Int) (L : List Pair) (s : ByteArray) (ok : Bool) : Prop where
  keep : Keep w wx S
  list : ListAt wx lb S most L
  b2 : wx.heap[w.heap.size + 1 + 1]? = some (.cells #[.string s] 9 (0, 0))
  b3 : wx.heap[w.heap.size + 1 + 1 + 1]? = some (.cells #[.bool ok] 4 (0, 0))

theorem useX_mk (h : UseW w wx lb S most L key e) (s : ByteArray) (ok : Bool) : UseX w ((wx.setCell ⟨w.heap.size + 1 + 1, 0, none⟩ (.string s)).setCell ⟨w.heap.size + 1 + 1 + 1, 0, none⟩ (.bool ok)) lb S most L s ok ∧
    Keep wx ((wx.setCell ⟨w.heap.size + 1 + 1, 0, none⟩ (.string s)).setCell ⟨w.heap.size + 1 + 1 + 1, 0, none⟩ (.bool ok)) (fun b => b = w.heap.size + 1 + 1 ∨ b = w.heap.size + 1 + 1 + 1) := by
  have k1 := Keep.setCell wx ⟨w.heap.size + 1 + 1, 0, none⟩ (.string s)
  have k2 := Keep.setCell (wx.setCell ⟨w.heap.size + 1 + 1, 0, none⟩ (.string s)) ⟨w.heap.size + 1 + 1 + 1, 0, none⟩ (.bool ok)
  have kk : Keep wx ((wx.setCell ⟨w.heap.size + 1 + 1, 0, none⟩ (.string s)).setCell ⟨w.heap.size + 1 + 1 + 1, 0, none⟩ (.bool ok)) (fun b => b = w.heap.size + 1 + 1 ∨ b = w.heap.size + 1 + 1 + 1) :=
    (k1.mono (T := fun b => b = w.heap.size + 1 + 1 ∨ b = w.heap.size + 1 + 1 + 1) (fun b q => .inl q)).trans k2 (fun b q => .inl (.inr q))
  refine ⟨⟨h.keep.trans kk (fun b q => .inr (by omega)), h.list.keep kk (fun b q z => by have := h.s0 b q; omega), ?_, ?_⟩, kk⟩
  · have e1 := heap_setCell_eq (.string s) (off := 0) h.b2
    exact k2.get e1 (fun q => by have h' : w.heap.size + 1 + 1 = w.heap.size + 1 + 1 + 1 := q; omega)
  · have e1 := k1.get h.b3 (fun q => by have h' : w.heap.size + 1 + 1 + 1 = w.heap.size + 1 + 1 := q; omega)
    exact heap_setCell_eq (.bool ok) (off := 0) e1

theorem UseX.fin {S0 : Nat → Prop} {s : ByteArray} {ok : Bool} (h : UseX w wx lb S most L s ok) (hn : ∀ b, S b → S0 b ∨ w.heap.size ≤ b) : ListAt wx lb S most L ∧ Turn w S0 wx S :=
  ⟨h.list, (Keep.refl w S0).trans h.keep hn, hn⟩

theorem UseX.far {B : Nat} {C : Nat → Prop} {s : ByteArray} {ok : Bool} (h : UseX w wx lb S most L s ok) (hB : ∀ b, S b → b < B) (hB5 : w.heap.size + 5 ≤ B) (k : Keep wx wy (fun b => B ≤ b ∧ C b)) : UseX w wy lb S most L s ok :=
  ⟨h.keep.trans k (fun b q => .inr (by have := q.1; omega)), h.list.keep k (fun b q z => by have := hB b q; have := z.1; omega), k.get h.b2 (fun z => by have := z.1; omega), k.get h.b3 (fun z => by have := z.1; omega)⟩
end

theorem del_list {w w3 : World} {lb g n cap k : Nat} {S : Nat → Prop} {most : Int} {L : List Pair} {key : ByteArray} (hL : ListAt w lb S most L) (hb : w.heap[lb]? = some (.cells #[.int .i64 most, .slice (some ⟨g, 0, none⟩) (n + 1) cap] 69 (0, 0)))
    (hS : ∀ b, (Value.slice (some ⟨g, 0, none⟩) (n + 1) cap).ownBlock = some b → S b ∧ b ≠ lb) (hlb : S lb) (hn : L.length = n + 1) (hk : k < n + 1) (h4 : L.eraseIdx k = adel L key)
    (q1 : w3.ownsRow 0 72 2 (.slice (some ⟨g, 0, none⟩) n cap) n ((flat entV L).take (k * 2) ++ (flat entV L).drop ((k + 1) * 2))) (q2 : Keep w w3 (fun b => b = g)) :
    ListAt (w3.setCell ⟨lb, 1, none⟩ (.slice (some ⟨g, 0, none⟩) n cap)) lb S most (adel L key) ∧ Keep w (w3.setCell ⟨lb, 1, none⟩ (.slice (some ⟨g, 0, none⟩) n cap)) S := by
  have hne : lb ≠ g := fun e => (hS g rfl).2 e.symm
  have hSg := (hS g rfl).1
  have hb3 := q2.get hb hne
  have e5 := heap_setCell_eq (.slice (some ⟨g, 0, none⟩) n cap) (off := 1) hb3
  have k5 := Keep.setCell w3 ⟨lb, 1, none⟩ (.slice (some ⟨g, 0, none⟩) n cap)
  have kk : Keep w (w3.setCell ⟨lb, 1, none⟩ (.slice (some ⟨g, 0, none⟩) n cap)) S := (q2.mono (T := S) (fun b q => by rw [show b = g from q]; exact hSg)).trans k5 (fun b q => .inl (by rw [show b = lb from q]; exact hlb))
  have hlen : (adel L key).length = n := by rw [← h4, List.length_eraseIdx]; simp only [hn, hk, if_true]; omega
  refine ⟨⟨⟨_, e5, ?_, fun b q => hS b q, hlb⟩, fun b q => Nat.lt_of_lt_of_le (hL.lt b q) kk.size, adel_nodup hL.nodup key⟩, kk⟩
  rw [hlen, ← h4, ← flat_erase]
  exact rows_keep q1 k5 (fun b q z => by
    have : b = g := by simpa [Value.ownBlock] using q.symm
    exact hne (by rw [← show b = lb from z, this]))

theorem ent_aget_none {L : List Pair} (hn : (L.map Prod.fst).Nodup) (key : ByteArray) : key ∉ (adel L key).map Prod.fst := by
  induction L with
  | nil => simp [adel]
  | cons x r ih =>
    obtain ⟨a, u⟩ := x
    simp only [List.map_cons, List.nodup_cons] at hn
    simp only [adel]
    split
    · rename_i e; subst e; exact hn.1
    · rename_i e
      simp only [List.map_cons, List.mem_cons, not_or]
      exact ⟨fun q => e q.symm, ih hn.2⟩

theorem app_list {w wc w2 : World} {lb n cap2 : Nat} {sa2 : Option Addr} {S : Nat → Prop} {most p0 : Int} {A : List Pair} {key : ByteArray} {e : Pair} {v : Value} (hU : UseW w wc lb S most A key e) (hb : wc.heap[lb]? = some (.cells #[.int .i64 most, v] 69 (0, 0)))
    (hS : ∀ b, v.ownBlock = some b → S b ∧ b ≠ lb) (hlb : S lb) (hn : n = A.length) (hkey : key ∉ A.map Prod.fst)
    (ho : w2.ownsRow 0 72 2 (.slice sa2 (n + 1) cap2) (n + 1) (flat entV A ++ [.string key, .int .i64 p0])) (hk : Keep wc w2 (fun b => v.ownBlock = some b)) (hf : ∀ b, (Value.slice sa2 (n + 1) cap2).ownBlock = some b → v.ownBlock = some b ∨ wc.heap.size ≤ b) :
    ∃ S', UseW w (w2.setCell ⟨lb, 1, none⟩ (.slice sa2 (n + 1) cap2)) lb S' most (A ++ [(key, p0)]) key e ∧ Turn w S (w2.setCell ⟨lb, 1, none⟩ (.slice sa2 (n + 1) cap2)) S' := by
  have hb2 := hk.get hb (fun q => (hS lb q).2 rfl)
  have e5 := heap_setCell_eq (.slice sa2 (n + 1) cap2) (off := 1) hb2
  have k5 := Keep.setCell w2 ⟨lb, 1, none⟩ (.slice sa2 (n + 1) cap2)
  have kk : Keep wc (w2.setCell ⟨lb, 1, none⟩ (.slice sa2 (n + 1) cap2)) S := (hk.mono (T := S) (fun b q => (hS b q).1)).trans k5 (fun b q => .inl (by rw [show b = lb from q]; exact hlb))
  have hwc : w.heap.size + 5 ≤ wc.heap.size := by have := lt_of_blk hU.b4; omega
  have hlbn : ∀ b, (Value.slice sa2 (n + 1) cap2).ownBlock = some b → b ≠ lb := fun b q => by
    rcases hf b q with z | z
    · exact (hS b z).2
    · have := hU.list.lt lb hlb; omega
  have hall : ListAt (w2.setCell ⟨lb, 1, none⟩ (.slice sa2 (n + 1) cap2)) lb (fun b => S b ∨ (Value.slice sa2 (n + 1) cap2).ownBlock = some b) most (A ++ [(key, p0)]) := by
    refine ⟨⟨_, e5, ?_, fun b q => ⟨.inr q, hlbn b q⟩, .inl hlb⟩, fun b q => ?_, ?_⟩
    · rw [List.length_append, List.length_singleton, ← hn, flat_append]
      exact rows_keep ho k5 (fun b q z => hlbn b q z)
    · rcases q with q | q
      · exact Nat.lt_of_lt_of_le (hU.list.lt b q) kk.size
      · rcases rows_val ho with ⟨z, _⟩ | ⟨g, cap, z, _, h5, h6⟩
        · rw [z] at q; simp [Value.ownBlock] at q
        · rw [h5] at q; cases q; exact Nat.lt_of_lt_of_le h6 k5.size
    · rw [List.map_append, List.map_cons, List.map_nil]
      refine List.nodup_append.2 ⟨hU.list.nodup, by simp, fun x hx y hy q => ?_⟩
      simp at hy
      subst hy
      subst q
      exact hkey hx
  have hs0 : ∀ b, (S b ∨ (Value.slice sa2 (n + 1) cap2).ownBlock = some b) → b < w.heap.size ∨ w.heap.size + 5 ≤ b := by
    intro b q
    rcases q with q | q
    · exact hU.s0 b q
    · rcases hf b q with z | z
      · exact hU.s0 b (hS b z).1
      · omega
  have hns : ∀ b, w.heap.size ≤ b → b < w.heap.size + 5 → ¬ S b := fun b h1 h2 q => by have := hU.s0 b q; omega
  refine ⟨_, ⟨(hU.keep.trans kk (fun b q => .inl q)).mono (fun b q => .inl q), hall, hs0, kk.get hU.b0 (hns _ (by omega) (by omega)), kk.get hU.b1 (hns _ (by omega) (by omega)), kk.get hU.b2 (hns _ (by omega) (by omega)), kk.get hU.b3 (hns _ (by omega) (by omega)), kk.get hU.b4 (hns _ (by omega) (by omega))⟩, hU.keep.trans kk (fun b q => .inl q), fun b q => ?_⟩
  rcases q with q | q
  · exact .inl q
  · rcases hf b q with z | z
    · exact .inl (hS b z).1
    · exact .inr (by omega)

theorem app_facts {w wc wd w2 : World} {lb n cap : Nat} {sa : Option Addr} {S : Nat → Prop} {most : Int} {A : List Pair} {key : ByteArray} {e : Pair} (hU : UseW w wc lb S most A key e) (hb : wc.heap[lb]? = some (.cells #[.int .i64 most, .slice sa n cap] 69 (0, 0)))
    (hS : ∀ b, (Value.slice sa n cap).ownBlock = some b → S b ∧ b ≠ lb) (K0 : Keep wc wd (fun _ => False)) (hk : Keep wd w2 (fun b => some b = (Value.slice sa n cap).ownBlock)) :
    w2.cell? ⟨w.heap.size, 0, none⟩ = some (.pointer (some ⟨lb, 0, none⟩)) ∧ w2.cell? ⟨lb, 1, none⟩ = some (.slice sa n cap) ∧ w2.frozen? ⟨lb, 1, none⟩ = false ∧ Keep wc w2 (fun b => (Value.slice sa n cap).ownBlock = some b) := by
  have B2 := hk.get (K0.get hb (fun q => q)) (fun e => (hS lb e.symm).2 rfl)
  have B0 := hk.get (K0.get hU.b0 (fun q => q)) (fun e => by have := hU.s0 _ (hS _ e.symm).1; omega)
  refine ⟨by rw [cell_blk B0]; rfl, by rw [cell_blk B2]; rfl, free_blk B2 _, ?_⟩
  exact (K0.mono (fun _ q => q.elim)).trans (hk.mono (T := fun b => (Value.slice sa n cap).ownBlock = some b) (fun b q => q.symm)) (fun b q => .inl q)

set_option maxRecDepth 100000 in
set_option maxHeartbeats 4000000 in
theorem use_c {w : World} {lb : Nat} {S : Nat → Prop} {most : Int} {L : List Pair} (h : ListAt w lb S most L) (hl : L.length ≤ 100000) (key : ByteArray) :
    Calls Tryd.prog 24 #[.pointer (some ⟨lb, 0, none⟩), .string key] w fun r w' => r = .returned (.tuple #[.string (useE most L key).2.1, .bool (useE most L key).2.2]) ∧ ∃ S', ListAt w' lb S' most (useE most L key).1 ∧ Turn w S w' S' := by
  refine calls_marks Tryd.func24 rfl ?_
  simp only [Tryd.ntmps24, List.size_toArray, List.length_cons, List.length_nil, Nat.reduceAdd, Nat.reduceSub, Array.replicate_succ, Array.replicate_zero, List.push_toArray, List.append_toArray, List.nil_append, List.cons_append]
  have hU := useW_start (key := key) h
  have HU := Lib.hid hU
  have hf := find_c hU.list (by omega) key
  have hbd : idxT L key ≤ 100000 := by
    cases hg : aget L key with
    | none => rw [idx_none hg]; omega
    | some p => obtain ⟨k, h1, _, h3, _⟩ := idx_some hg; rw [h1]; omega
  clear h hU
  generalize hz : idxT L key = z at *
  have HZ := Lib.hid hz
  clear hz
  go_upto_if 15 with (
    go_at_call 38
    refine hf.mono ?_
    rintro e w6 ⟨rfl, hk6⟩
    have U6 := Lib.hid (HU.out.aside hk6)
    clear hf hk6)
  clear HU
  go_cut [] from 16 to 33 (fun wx => UseW w wx lb S most (adel L key) key (key, (aget L key).getD 0))
  case first =>
    -- {{
    cases hg : aget L key with
    | none =>
      have hz0 : z = -1 := by rw [← HZ.out, idx_none hg]
      subst hz0
      have HA := Lib.hid (And.intro (adel_none hg) hg)
      clear hg
      go_wp2
      go_meet
      case rel => rw [HA.out.1]; simpa [HA.out.2] using U6.out
    | some p =>
      obtain ⟨k, h1, h2, h3, h4⟩ := idx_some hg
      have hz0 : z = k := by rw [← HZ.out, h1]
      subst hz0
      obtain ⟨v, hb, hr, hS, hlb⟩ := U6.out.list.ex
      obtain ⟨sa, cap, rfl, hcap⟩ := rows_val2 hr
      obtain ⟨g, rfl, _, _, hgl⟩ := rows_some hr (by omega)
      have hrf := Lib.hid (And.intro (flat_get entV 2 entV_len h2 (j := 0) (by omega)) (flat_get entV 2 entV_len h2 (j := 1) (by omega)))
      generalize hln : L.length = ln at *
      obtain ⟨n, rfl⟩ : ∃ n, ln = n + 1 := ⟨ln - 1, by omega⟩
      have c0 := cell_blk U6.out.b0 0
      have c1 : w6.cell? ⟨lb, 1, none⟩ = some (.slice (some ⟨g, 0, none⟩) (n + 1) cap) := by rw [cell_blk hb]; rfl
      have c2 : w6.cell? ⟨g, k * 2, none⟩ = some (.string key) := (rows_cell hr hrf.out.1).1
      have c3 : w6.cell? ⟨g, k * 2 + 1, none⟩ = some (.int .i64 p) := (rows_cell hr hrf.out.2).1
      have c4 := cell_blk U6.out.b4 0
      have c5 := cell_blk U6.out.b4 1
      have f4 := free_blk U6.out.b4 0
      have f5 := free_blk U6.out.b4 1
      simp only [List.getElem?_toArray, List.getElem?_cons_zero, List.getElem?_cons_succ] at c0 c4 c5
      have g1 : (k : Int) < (n : Int) + 1 := by omega
      have g2 : (0 : Int) ≤ (k : Int) := by omega
      have HG := Lib.hid (And.intro hg (And.intro hb (And.intro hr (And.intro hS (And.intro hlb (And.intro h4 hln))))))
      clear hg h1 h2 h4 hb hr hS hlb hln hrf
      go_wp2
      obtain ⟨w7, hw7⟩ : ∃ w7, w7 = ((w6.setCell ⟨w.heap.size + 1 + 1 + 1 + 1, 0, none⟩ (.string key)).setCell ⟨w.heap.size + 1 + 1 + 1 + 1, 1, none⟩ (.int .i64 p)) := ⟨_, rfl⟩
      have k7 : Keep w6 w7 (fun b => b = w.heap.size + 1 + 1 + 1 + 1) := by rw [hw7]; exact (Keep.setCell _ _ _).trans (Keep.setCell _ _ _) (fun b q => .inl q)
      have b7 : w7.heap[w.heap.size + 1 + 1 + 1 + 1]? = some (.cells #[.string key, .int .i64 p] 72 (0, 0)) := by
        rw [hw7]
        exact heap_setCell_eq (.int .i64 p) (off := 1) (heap_setCell_eq (.string key) (off := 0) U6.out.b4)
      have hU7 : UseW w w7 lb S most L key (key, p) := by
        have hu := U6.out
        exact ⟨hu.keep.trans k7 (fun b q => .inr (by rw [show b = _ from q]; omega)), hu.list.keep k7 (fun b q z => by have := hu.s0 b q; omega), hu.s0, k7.get hu.b0 (by omega), k7.get hu.b1 (by omega), k7.get hu.b2 (by omega), k7.get hu.b3 (by omega), b7⟩
      rw [← hw7]
      have hnS : ∀ b, S b → ¬ b = w.heap.size + 1 + 1 + 1 + 1 := fun b q => by have := U6.out.s0 b q; omega
      have U7 := Lib.hid (And.intro hU7 (And.intro (k7.get HG.out.2.1 (hnS _ HG.out.2.2.2.2.1)) (rows_keep HG.out.2.2.1 k7 (fun b q => hnS b (HG.out.2.2.2.1 b q).1))))
      clear hw7 k7 b7 hU7 c0 c1 c2 c3 c4 c5 f4 f5 hnS
      have c0 := cell_blk U7.out.1.b0 0
      have c1 : w7.cell? ⟨lb, 1, none⟩ = some (.slice (some ⟨g, 0, none⟩) (n + 1) cap) := by rw [cell_blk U7.out.2.1]; rfl
      simp only [List.getElem?_toArray, List.getElem?_cons_zero, List.getElem?_cons_succ] at c0
      have hdel : ∀ w', Keep w7 w' (fun _ => False) → Calls Tryd.prog 39 #[.slice (some ⟨g, 0, none⟩) (n + 1) cap, .int .i64 k, .int .i64 ((k : Int) + 1)] w' fun r w'' => r = .returned (.slice (some ⟨g, 0, none⟩) n cap) ∧
          w''.ownsRow 0 72 2 (.slice (some ⟨g, 0, none⟩) n cap) n ((flat entV L).take (k * 2) ++ (flat entV L).drop ((k + 1) * 2)) ∧ Keep w7 w'' (fun b => b = g) := fun w' K' =>
        (del_c (rows_keep U7.out.2.2 K' (fun _ _ q => q)) h3 (ent_one L)).mono (by
          rintro e w'' ⟨rfl, q1, q2⟩
          exact ⟨rfl, q1, (K'.mono (fun _ q => q.elim)).trans q2 (fun b q => .inl q)⟩)
      have gw : IntKind.i64.wrap ((k : Int) + 1) = (k : Int) + 1 := IntWalk.i64_in _ (by omega)
      go_region_with (
        (go_at_call 39
         refine (hdel _ ?_).mono ?_
         focus first | exact Keep.refl _ _ | exact Keep.drew _ _ | exact drewN_keep _ _ _
         rintro e w9 ⟨rfl, q1, q2⟩
         have N9 := Lib.hid (And.intro q1 q2)
         have hne : lb ≠ g := fun e => (HG.out.2.2.2.1 g rfl).2 e.symm
         have hng : w.heap.size ≠ g := fun e => by have := U6.out.s0 g (HG.out.2.2.2.1 g rfl).1; omega
         have hb9 := q2.get U7.out.2.1 hne
         have d0 : w9.cell? ⟨w.heap.size, 0, none⟩ = some (.pointer (some ⟨lb, 0, none⟩)) := by rw [cell_blk (q2.get U7.out.1.b0 hng)]; rfl
         have d1 : w9.cell? ⟨lb, 1, none⟩ = some (.slice (some ⟨g, 0, none⟩) (n + 1) cap) := by rw [cell_blk hb9]; rfl
         have d2 : w9.frozen? ⟨lb, 1, none⟩ = false := free_blk hb9 _
         clear hdel q1 q2 hne hng hb9))
      all_goals go_wp2
      all_goals go_meet
      all_goals (
        obtain ⟨q1, q2⟩ := N9.out
        obtain ⟨r1, r2⟩ := del_list U7.out.1.list U7.out.2.1 HG.out.2.2.2.1 HG.out.2.2.2.2.1 HG.out.2.2.2.2.2.2 h3 HG.out.2.2.2.2.2.1 q1 q2
        have hu := U7.out.1.turn r2 r1
        rw [HG.out.1]
        exact hu)
    -- }}
  case rest =>
    have hU := hcut
    clear hcut
    obtain ⟨v, hb, hr, hS, hlb⟩ := hU.list.ex
    obtain ⟨sa, cap, rfl, hcap⟩ := rows_val2 hr
    have hlen : (adel L key).length ≤ 100000 := by have := (adel_sub L key).length_le; omega
    generalize hp0 : (aget L key).getD 0 = p0 at *
    have HP0 := Lib.hid hp0
    clear hp0
    generalize hA : adel L key = A at *
    have HA := Lib.hid hA
    clear hA
    obtain ⟨n, hn⟩ : ∃ n, n = A.length := ⟨_, rfl⟩
    rw [← hn] at hr hb hcap hlen hS
    have HC := Lib.hid (And.intro hU (And.intro hb (And.intro hr (And.intro hS (And.intro hlb hn)))))
    have c0 := cell_blk hU.b0 0
    have c1 : wc.cell? ⟨lb, 1, none⟩ = some (.slice sa n cap) := by rw [cell_blk hb]; rfl
    have c4 := cell_blk hU.b4 0
    have c5 := cell_blk hU.b4 1
    simp only [List.getElem?_toArray, List.getElem?_cons_zero, List.getElem?_cons_succ] at c0 c4 c5
    clear hU hb hr hS hlb hn HZ hbd
    obtain ⟨ti, ti1, ti2, ti3, ti4⟩ := ent_info
    have HI := Lib.hid (And.intro ti1 (And.intro ti2 (And.intro ti3 ti4)))
    clear ti1 ti2 ti3 ti4
    have hz2 : (Value.agg #[.string ByteArray.empty, .int .i64 0]).cells.size = 2 := rfl
    go_upto_region 6 with (fail)
    go_cut [] from 34 to 43 (fun wx => ∃ S', UseW w wx lb S' most (A ++ [(key, p0)]) key (key, p0) ∧ Turn w S wx S')
    case first =>
      -- {{
      have K0 : Keep wc (World.drew (wc.alloc (.cells #[.string key, .int .i64 p0] 72))) (fun _ => False) := (Keep.alloc wc _ (fun _ => False)).trans (Keep.drew _ (fun _ => False)) (fun _ q => q.elim)
      have R0 := rows_keep HC.out.2.2.1 K0 (fun _ _ q => q)
      have RR := Lib.hid (And.intro K0 (And.intro R0 (cells_new wc [.string key, .int .i64 p0] 72)))
      have c0' := K0.cell c0 (fun q => q)
      have c1' := K0.cell c1 (fun q => q)
      simp only [World.cell?_drew] at c0' c1'
      clear K0 R0
      go_region_law (
        (refine step_append_row rfl _ _ _ (by rfl) Tryd.underlying67 HI.out.1 HI.out.2.1 HI.out.2.2.1 HI.out.2.2.2 hz2 (by omega) (by rfl) RR.out.2.1 [.string key, .int .i64 p0] (by rfl) rfl (.inr ⟨_, rfl, RR.out.2.2⟩) (by simp [Value.oneCell']) (by omega) (n + 1) rfl _ rfl ?_
         intro sa2 cap2 w2 ho hk hf2
         obtain ⟨d0, d1, d2, d3⟩ := app_facts HC.out.1 HC.out.2.1 HC.out.2.2.2.1 RR.out.1 hk
         have N := Lib.hid (And.intro ho (And.intro d3 hf2))
         clear ho hk hf2 d3))
      all_goals go_wp2
      all_goals go_meet
      all_goals exact app_list HC.out.1 HC.out.2.1 HC.out.2.2.2.1 HC.out.2.2.2.2.1 HC.out.2.2.2.2.2 (by rw [← HA.out]; exact ent_aget_none U6.out.list.nodup key) N.out.1 N.out.2.1 (fun b q => (N.out.2.2 b q).imp id (fun z => by rw [z]; exact RR.out.1.size))
      -- }}
    case rest =>
      obtain ⟨S', hU', hT'⟩ := hcut
      have hul : used L key = A ++ [(key, p0)] := by unfold used; rw [HP0.out, HA.out]
      have HUL := Lib.hid hul
      have hln : (A ++ [(key, p0)]).length ≤ 100001 := by rw [List.length_append, List.length_singleton, ← HC.out.2.2.2.2.2]; omega
      clear c0 c1 c4 c5 hul HC HI hz2 U6
      generalize A ++ [(key, p0)] = A1 at *
      obtain ⟨v1, hb1, hr1, hS1, hlb1⟩ := hU'.list.ex
      obtain ⟨sa1, cap1, rfl, hcap1⟩ := rows_val2 hr1
      have c0 := cell_blk hU'.b0 0
      have c1 : wc.cell? ⟨lb, 1, none⟩ = some (.slice sa1 A1.length cap1) := by rw [cell_blk hb1]; rfl
      have c2 : wc.cell? ⟨lb, 0, none⟩ = some (.int .i64 most) := by rw [cell_blk hb1]; rfl
      simp only [List.getElem?_toArray, List.getElem?_cons_zero, List.getElem?_cons_succ] at c0
      have V := Lib.hid (And.intro hU' hT')
      clear hU' hT' hb1 hr1 hS1 hlb1
      by_cases hle : (A1.length : Int) ≤ most
      · have hun : useE most L key = (A1, ByteArray.empty, false) := by unfold useE; rw [HUL.out, if_pos hle]
        have HUN := Lib.hid hun
        have b2 := free_blk V.out.1.b2 0
        have b3 := free_blk V.out.1.b3 0
        have d2 := cell_blk V.out.1.b2 0
        have d3 := cell_blk V.out.1.b3 0
        simp only [List.getElem?_toArray, List.getElem?_cons_zero, List.getElem?_cons_succ] at d2 d3
        clear hun
        have hb2 := Lib.hid (And.intro V.out.1.b2 V.out.1.b3)
        go_wp2
        go_quiet (fail)
        go_wp2
        obtain ⟨hX, _⟩ := useX_mk (V.out.1.aside (drewN_keep wc (fun _ => False) nq)) ⟨#[]⟩ false
        have e2 := cell_blk hX.b2 0
        have e3 := cell_blk hX.b3 0
        simp only [List.getElem?_toArray, List.getElem?_cons_zero, List.getElem?_cons_succ] at e2 e3
        rw [HUN.out]
        refine leaves_none ⟨.tuple #[.string ⟨#[]⟩, .bool false], ?_, rfl, S', hX.fin V.out.2.new⟩
        simp [results, Tryd.results24, go_sem, e2, e3]
      · go_wp2
        go_quiet (fail)
        go_wp2_with (
          go_at_call 40
          refine (loose_c _ _).mono ?_
          rintro e w11 ⟨rfl, rfl⟩)
        obtain ⟨wL, hwL⟩ : ∃ wL, wL = (wc.drewN nq).alloc (.cells #[.pointer (some ⟨lb, 0, none⟩)] 40) := ⟨_, rfl⟩
        have kL : Keep wc wL (fun _ => False) := by rw [hwL]; exact (drewN_keep wc (fun _ => False) nq).trans (Keep.alloc _ _ (fun _ => False)) (fun _ q => False.elim q)
        have bL : wL.heap[wc.heap.size]? = some (.cells #[.pointer (some ⟨lb, 0, none⟩)] 40 (0, 0)) := by rw [hwL]; exact heap_alloc_eq (wc.drewN nq) _
        have zL : wL.heap.size = wc.heap.size + 1 := by rw [hwL]; simp
        rw [← hwL]
        clear hwL
        have hUL : UseW w wL lb S' most A1 key (key, p0) := V.out.1.aside kL
        have hB : ∀ b, S' b → b < wL.heap.size := fun b q => by have := V.out.1.list.lt b q; omega
        have hB5 : w.heap.size + 5 ≤ wL.heap.size := by have := lt_of_blk V.out.1.b4; omega
        have VL := Lib.hid (And.intro hUL (And.intro hB (And.intro hB5 bL)))
        clear hUL hB hB5 bL c0 c1 c2
        refine wp_range1 (α := ByteArray) (enc := fun x => .string x) (j := 8) (gf := 51) (lb := #[.pointer (some ⟨wc.heap.size, 0, none⟩)]) rfl (enters_of Tryd.func51 (by kernel_rfl) rfl)
          (loose_stops 8 (by omega) wc.heap.size lb wL.heap.size S' most A1 (by omega) wL (by rw [cell_blk VL.out.2.2.2]; rfl) (by omega) VL.out.1.list VL.out.2.1 (Nat.le_refl _)) (Nat.le_refl _)
          (fun pre W => UseW w W lb S' most A1 key (key, p0) ∧ ∀ s ∈ pre, s = key)
          (fun c pre W => c = .ret ∧ ∃ s pre', pre = pre' ++ [s] ∧ s ≠ key ∧ (∀ t ∈ pre', t = key) ∧ UseX w W lb S' most (adel A1 s) s true)
          (own_of fun s W W' h k => ⟨h.1.far VL.out.2.1 VL.out.2.2.1 k, h.2⟩)
          (fun c => own_of fun s W W' h k => ⟨h.1, by obtain ⟨_, s, pre', h1, h2, h3, h4⟩ := h; exact ⟨s, pre', h1, h2, h3, h4.far VL.out.2.1 VL.out.2.2.1 k⟩⟩)
          ⟨VL.out.1, by simp⟩ ?assign ?body ?done ?stop
        case assign =>
          intro l x W K hK
          gi_wp2
          exact hK
        case body =>
          rintro l pre x W ⟨hW, hpre⟩ _
          have hn1 : 1 ≤ 7 := by omega
          simp only [List.setIfInBounds_toArray, List.set_cons_succ, List.set_cons_zero]
          have c0 := cell_blk hW.b0 0
          have c3 := cell_blk hW.b1 0
          simp only [List.getElem?_toArray, List.getElem?_cons_zero, List.getElem?_cons_succ] at c0 c3
          have D := Lib.hid (And.intro hW hpre)
          clear hW hpre
          by_cases hx : x = key
          · subst hx
            have g1 : (x.toList == x.toList) = true := by simp
            gi_wp2
            exact ⟨KeepsFrom.refl _ _, Below.refl _ _, D.out.1, fun s q => by
              rcases List.mem_append.1 q with q | q
              · exact D.out.2 s q
              · simpa using q⟩
          · have g1 : (x.toList == key.toList) = false := streq hx
            have HX := Lib.hid hx
            clear hx
            have hdr := drop_c D.out.1.list (by omega) x
            gi_wp2_with (
              refine ⟨trivial, ?_⟩
              gi_at_call 26
              refine (CallsIn.inRound l (callsIn_wide.2 hdr)).mono ?_
              rintro e W2 ⟨rfl, h1, h2⟩
              have U2 := Lib.hid (D.out.1.turn h2 h1)
              have K2 := Lib.hid h2
              have b2 := free_blk U2.out.b2 0
              have b3 := free_blk U2.out.b3 0
              have d2 := cell_blk U2.out.b2 0
              have d3 := cell_blk U2.out.b3 0
              simp only [List.getElem?_toArray, List.getElem?_cons_zero, List.getElem?_cons_succ] at d2 d3
              clear hdr h1 h2)
            obtain ⟨hX, kX⟩ := useX_mk U2.out x true
            refine ⟨(keepsFrom_of K2.out (fun b q => VL.out.2.1 b q)).trans (keepsFrom_of kX (fun b q => by have := VL.out.2.2.1; omega)), rfl, x, pre, rfl, HX.out, D.out.2, hX⟩
        case done =>
          rintro D xs W hD rfl ⟨hW, hxs⟩ hK
          have hun : useE most L key = (A1, ByteArray.empty, false) := by
            unfold useE
            rw [HUL.out, if_neg (by omega)]
            have : (looseL A1).find? (fun s => decide (s ≠ key)) = none := by
              rw [List.find?_eq_none]
              intro s q
              simp [hxs s q]
            rw [this]
          have HUN := Lib.hid hun
          have b2 := free_blk hW.b2 0
          have b3 := free_blk hW.b3 0
          have d2 := cell_blk hW.b2 0
          have d3 := cell_blk hW.b3 0
          simp only [List.getElem?_toArray, List.getElem?_cons_zero, List.getElem?_cons_succ] at d2 d3
          have D2 := Lib.hid (And.intro hW hK)
          clear hun hW hxs hK
          go_wp2
          obtain ⟨hX, kX⟩ := useX_mk D2.out.1 ⟨#[]⟩ false
          rw [HUN.out]
          refine leaves_mark (kX.get D2.out.2 (fun q => by have := VL.out.2.2.1; omega)) fun w' k' => ?_
          have hX' := hX.far (C := fun _ => True) VL.out.2.1 VL.out.2.2.1 (k'.mono fun b q => ⟨by rw [show b = D from q]; exact hD, trivial⟩)
          have e2 := cell_blk hX'.b2 0
          have e3 := cell_blk hX'.b3 0
          simp only [List.getElem?_toArray, List.getElem?_cons_zero, List.getElem?_cons_succ] at e2 e3
          refine ⟨.tuple #[.string ⟨#[]⟩, .bool false], ?_, rfl, S', hX'.fin V.out.2.new⟩
          simp [results, Tryd.results24, go_sem, e2, e3]
        case stop =>
          rintro D c pre W hD hpre ⟨rfl, s, pre', rfl, hs, hp', hX⟩ hK
          have hun : useE most L key = (adel A1 s, s, true) := by
            unfold useE
            rw [HUL.out, if_neg (by omega)]
            have : (looseL A1).find? (fun s => decide (s ≠ key)) = some s := by
              obtain ⟨t, ht⟩ := hpre
              rw [← ht, List.append_assoc, List.find?_append]
              have h1 : pre'.find? (fun s => decide (s ≠ key)) = none := by
                rw [List.find?_eq_none]
                intro u q
                simp [hp' u q]
              rw [h1]
              simp [hs]
            rw [this]
          have HUN := Lib.hid hun
          have D2 := Lib.hid (And.intro hX hK)
          clear hun hX hK hpre hp' hs
          go_wp2
          rw [HUN.out]
          refine leaves_mark D2.out.2 fun w' k' => ?_
          have hX' := D2.out.1.far (C := fun _ => True) VL.out.2.1 VL.out.2.2.1 (k'.mono fun b q => ⟨by rw [show b = D from q]; exact hD, trivial⟩)
          have e2 := cell_blk hX'.b2 0
          have e3 := cell_blk hX'.b3 0
          simp only [List.getElem?_toArray, List.getElem?_cons_zero, List.getElem?_cons_succ] at e2 e3
          refine ⟨.tuple #[.string s, .bool true], ?_, rfl, S', hX'.fin V.out.2.new⟩
          simp [results, Tryd.results24, go_sem, e2, e3]

end Go.Proofs.YtjicoebcmfnooaaDoor
