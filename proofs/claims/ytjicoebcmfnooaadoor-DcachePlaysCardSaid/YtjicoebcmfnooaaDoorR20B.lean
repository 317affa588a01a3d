/-
  The document's cache in memory; its find, its out. (Printed by gen_rout.py.)
-/
import Derived.Test.YtjicoebcmfnooaaDoorK8W
import Derived.Test.YtjicoebcmfnooaaDoorRLru4
import Derived.Test.YtjicoebcmfnooaaDoorDShrink
namespace Go.Proofs.YtjicoebcmfnooaaDoor
open Go Go.RowKit
set_option linter.unusedSectionVars false
set_option linter.unusedSimpArgs false
set_option linter.unusedVariables false
set_option maxRecDepth 100000

def lru8 (A : Mem) : List Pair := A.map fun x => (k8 x.1, 0)
def ent8 (x : Nm × Int) : List Value := [.string (k8 x.1), .int .i64 x.1.1, .string x.1.2, .int .i64 x.2]
theorem ent8_len (x : Nm × Int) : (ent8 x).length = 4 := rfl
theorem ent8_one (l : Mem) : ∀ u ∈ flat ent8 l, oneC u = true := by
  intro u hu
  unfold flat at hu
  obtain ⟨x, hx, hy⟩ := List.mem_flatMap.1 hu
  simp only [ent8, List.mem_cons, List.not_mem_nil, or_false] at hy
  rcases hy with rfl | rfl | rfl | rfl <;> rfl

structure RefC (w : World) (rb : Nat) (S : Nat → Prop) (most : Int) (L : List Pair) (K : Mem) : Prop where
  ex : ∃ (lb : Nat) (v : Value) (SL : Nat → Prop), w.heap[rb]? = some (.cells #[.pointer (some ⟨lb, 0, none⟩), v] 62 (0, 0)) ∧ RefL w lb SL most L ∧ w.ownsRow 0 65 4 v K.length (flat ent8 K) ∧ (∀ b, v.ownBlock = some b → (S b ∧ ¬ SL b) ∧ b ≠ rb) ∧ S rb ∧ ∀ b, SL b → S b ∧ b ≠ rb
  lt : ∀ b, S b → b < w.heap.size

theorem RefC.keep {w w' : World} {rb : Nat} {S U : Nat → Prop} {most : Int} {L : List Pair} {K : Mem} (h : RefC w rb S most L K) (k : Keep w w' U) (hU : ∀ b, S b → ¬ U b) : RefC w' rb S most L K := by
  obtain ⟨lb, v, SL, h1, h2, h3, h4, h5, h6⟩ := h.ex
  exact ⟨⟨lb, v, SL, k.get h1 (hU _ h5), h2.keep k (fun b q => hU b (h6 b q).1), rows_keep h3 k (fun b q => hU b (h4 b q).1.1), h4, h5, h6⟩, fun b q => Nat.lt_of_lt_of_le (h.lt b q) k.size⟩

theorem RefC.aside {w w' : World} {rb : Nat} {S : Nat → Prop} {most : Int} {L : List Pair} {K : Mem} (h : RefC w rb S most L K) (k : Keep w w' (fun _ => False)) : RefC w' rb S most L K := h.keep k (fun _ _ q => q)

theorem known_info : ∃ i, Tryd.prog.info? 65 = some i ∧ i.zero = some (.agg #[.string ByteArray.empty, .int .i64 0, .string ByteArray.empty, .int .i64 0]) ∧ i.size = 4 ∧ i.bytes ≤ 64 := by
  have h : (Tryd.prog.info? 65).map (fun i => (i.zero, i.size, i.bytes)) = some (some (.agg #[.string ByteArray.empty, .int .i64 0, .string ByteArray.empty, .int .i64 0]), 4, 48) := by kernel_rfl
  cases hh : Tryd.prog.info? 65 with
  | none => rw [hh] at h; simp at h
  | some i =>
    rw [hh] at h
    simp only [Option.map_some, Option.some.injEq, Prod.mk.injEq] at h
    exact ⟨i, rfl, h.1, h.2.1, by omega⟩

theorem known_cells : (Value.agg #[.string ByteArray.empty, .int .i64 0, .string ByteArray.empty, .int .i64 0]).cells.size = 4 := by kernel_rfl

theorem lru8_at {K : Mem} {k : Nat} {x : Nm × Int} (h : K[k]? = some x) : (lru8 K)[k]? = some (k8 x.1, 0) := by unfold lru8; rw [List.getElem?_map, h]; rfl

set_option maxHeartbeats 1000000 in
theorem kfind_c {w : World} {rb : Nat} {S : Nat → Prop} {most : Int} {L : List Pair} {T : Mem} (h : RefC w rb S most L T) (hl : T.length ≤ 1000000) (key : ByteArray) :
    Calls Tryd.prog 32 #[.pointer (some ⟨rb, 0, none⟩), .string key] w fun r w' => r = .returned (.int .i64 (idxT (lru8 T) key)) ∧ w' = w := by
  obtain ⟨lb, v, SL, h1, hL, h2, h3, h4, h5⟩ := h.ex
  obtain ⟨sa, cap, rfl, hc⟩ := rows_val2 h2
  have c0 : w.cell? ⟨rb, 1, none⟩ = some (.slice sa T.length cap) := by rw [cell_blk h1]; rfl
  have H := Lib.hid h2
  generalize hz : idxT (lru8 T) key = z
  have HZ := Lib.hid hz
  generalize hn : T.length = n at *
  have HN := Lib.hid hn
  clear h h1 h2 h3 h4 h5 hL hn hz
  go_enter Tryd.func32, Tryd.ntmps32
  go_wp2
  go_loopg [5] n (fun g s3 wr => ∃ k : Nat, s3 = .int .i64 k ∧ k + g = n ∧ (∀ x ∈ T.take k, k8 x.1 ≠ key) ∧ wr = w)
  case atStart => exact ⟨0, rfl, by omega, by simp, rfl⟩
  case round =>
    obtain ⟨k, rfl, hk, hne, rfl⟩ := hrel
    by_cases hlt : k < n
    · obtain ⟨g, rfl, _, _, _⟩ := rows_some H.out (by omega)
      obtain ⟨x, hx⟩ : ∃ x, T[k]? = some x := ⟨_, List.getElem?_eq_getElem (by rw [HN.out]; exact hlt)⟩
      have c1 : wr.cell? ⟨g, k * 4, none⟩ = some (.string (k8 x.1)) := (rows_cell H.out (by rw [← Nat.add_zero (k * 4), flat_get ent8 4 ent8_len hx (by omega)]; rfl)).1
      have hlt' : (k : Int) < (n : Int) := by omega
      have NE := Lib.hid hne
      have HX := Lib.hid hx
      clear hne hx
      obtain ⟨kx, hkx⟩ : ∃ kx, kx = k8 x.1 := ⟨_, rfl⟩
      rw [← hkx] at c1
      have HKX := Lib.hid hkx
      clear hkx
      by_cases he : kx = key
      · have HE := Lib.hid he
        go_wp2
        go_ret
        refine ⟨?_, rfl⟩
        rw [← HZ.out, idx_found (lru8_at HX.out) (by rw [← HKX.out]; exact HE.out) (by
          intro y hy
          unfold lru8 at hy
          rw [← List.map_take] at hy
          obtain ⟨z, hz, rfl⟩ := List.mem_map.1 hy
          exact NE.out z hz)]
        rfl
      · have g1 : (kx.toList == key.toList) = false := streq he
        have HE := Lib.hid he
        go_wp2
        go_roundg (n - (k + 1))
        case measure => omega
        case rel =>
          refine ⟨k + 1, rfl, by omega, ?_, rfl⟩
          intro y hy
          rw [List.take_add_one, HX.out] at hy
          rcases List.mem_append.1 hy with hy | hy
          · exact NE.out y hy
          · simp at hy; subst hy; rw [← HKX.out]; exact HE.out
    · have hlt' : ¬ (k : Int) < (n : Int) := by omega
      have NE := Lib.hid hne
      clear hne
      go_wp2
      go_ret
      have e : idxT (lru8 T) key = -1 := idx_out fun y hy => by
        unfold lru8 at hy
        obtain ⟨z, hz, rfl⟩ := List.mem_map.1 hy
        exact NE.out z (by rw [List.take_of_length_le (by rw [HN.out]; omega)]; exact hz)
      exact ⟨by rw [← HZ.out, e]; rfl, rfl⟩

/-- The cache's row is another one now. -/
theorem kref_row {w w2 : World} {rb lb : Nat} {S U SL : Nat → Prop} {most : Int} {L : List Pair} {T T' : Mem} {v0 : Value} (h : RefC w rb S most L T) (h1 : w.heap[rb]? = some (.cells #[.pointer (some ⟨lb, 0, none⟩), v0] 62 (0, 0))) (hL : RefL w lb SL most L)
    (h3 : ∀ b, v0.ownBlock = some b → (S b ∧ ¬ SL b) ∧ b ≠ rb) (h4 : S rb) (h5 : ∀ b, SL b → S b ∧ b ≠ rb) (K : Keep w w2 U) (hU : ∀ b, U b → v0.ownBlock = some b) {v : Value} {n : Nat} (hn : T'.length = n) (ho : w2.ownsRow 0 65 4 v n (flat ent8 T'))
    (hb : ∀ b, v.ownBlock = some b → v0.ownBlock = some b ∨ w.heap.size ≤ b) : ∃ S', RefC (w2.setCell ⟨rb, 1, none⟩ v) rb S' most L T' ∧ Turn w S (w2.setCell ⟨rb, 1, none⟩ v) S' := by
  subst hn
  have hr := h.lt _ h4
  have hne : ∀ b, v.ownBlock = some b → b ≠ rb := fun b q => by
    rcases hb b q with q | q
    · exact (h3 b q).2
    · omega
  have hnl : ∀ b, v.ownBlock = some b → ¬ SL b := fun b q => by
    rcases hb b q with q | q
    · exact (h3 b q).1.2
    · exact fun z => by have := hL.lt b z; omega
  have B : w2.heap[rb]? = some (.cells #[.pointer (some ⟨lb, 0, none⟩), v0] 62 (0, 0)) := K.get h1 (fun q => (h3 _ (hU _ q)).2 rfl)
  have kc := Keep.setCell w2 ⟨rb, 1, none⟩ v
  refine ⟨fun b => S b ∨ v.ownBlock = some b, ⟨⟨lb, v, SL, heap_setCell_eq (off := 1) _ B, (hL.keep K (fun b q z => (h3 _ (hU b z)).1.2 q)).keep kc (fun b q z => (h5 b q).2 z), rows_keep ho kc hne, fun b q => ⟨⟨.inr q, hnl b q⟩, hne b q⟩, .inl h4, fun b q => ⟨.inl (h5 b q).1, (h5 b q).2⟩⟩, fun b q => ?_⟩, ⟨(K.mono fun b q => (h3 b (hU b q)).1.1).trans kc (fun b q => .inl (by rw [show b = rb from q]; exact h4)), fun b q => ?_⟩⟩
  · have hs : (w2.setCell ⟨rb, 1, none⟩ v).heap.size = w2.heap.size := by simp
    rw [hs]
    rcases q with q | q
    · exact Nat.lt_of_lt_of_le (h.lt b q) K.size
    · rcases rows_val ho with ⟨rfl, _⟩ | ⟨g, cap, rfl, _, h5, h6⟩
      · simp [Value.ownBlock] at q
      · rw [h5] at q; cases q; exact h6
  · rcases q with q | q
    · exact .inl q
    · exact (hb b q).imp (fun z => (h3 b z).1.1) id

set_option maxHeartbeats 4000000 in
theorem kout_c {w : World} {rb : Nat} {S : Nat → Prop} {most : Int} {L : List Pair} {T : Mem} (h : RefC w rb S most L T) (hl : T.length ≤ 100000) {k : Nat} {x : Nm × Int} (hx : T[k]? = some x) (key : ByteArray) (hidx : idxT (lru8 T) key = k) :
    Calls Tryd.prog 34 #[.pointer (some ⟨rb, 0, none⟩), .string key] w fun r w' => r = .returned (.agg #[.string (k8 x.1), .int .i64 x.1.1, .string x.1.2, .int .i64 x.2]) ∧ ∃ S', RefC w' rb S' most L (T.eraseIdx k) ∧ Turn w S w' S' := by
  have hlt := (List.getElem?_eq_some_iff.1 hx).1
  have hfi := kfind_c (h.aside (Keep.alloc w (.cells #[.string { data := #[] }, .int .i64 0, .string { data := #[] }, .int .i64 0] 65) (fun _ => False))) (by omega) key
  rw [hidx] at hfi
  obtain ⟨lb, sv, SL, h1, hL, h2, h3, h4, h5⟩ := h.ex
  obtain ⟨sa, cap, rfl, hc⟩ := rows_val2 h2
  obtain ⟨g, rfl, _, _, hgl⟩ := rows_some h2 (by omega)
  obtain ⟨n, hn⟩ : ∃ n, n = T.length := ⟨_, rfl⟩
  rw [← hn] at h1 h2 h3 hc hl hlt
  have c0 : ∀ o, (w.alloc o).cell? ⟨rb, 1, none⟩ = some (.slice (some ⟨g, 0, none⟩) n cap) := fun o => (Keep.alloc w o (fun _ => False)).cell (by rw [cell_blk h1]; rfl) (fun q => q)
  have c1 : ∀ o, (w.alloc o).cell? ⟨g, k * 4, none⟩ = some (.string (k8 x.1)) := fun o => (Keep.alloc w o (fun _ => False)).cell (rows_cell h2 (by rw [← Nat.add_zero (k * 4), flat_get ent8 4 ent8_len hx (by omega)]; rfl)).1 (fun q => q)
  have c2 : ∀ o, (w.alloc o).cell? ⟨g, k * 4 + 1, none⟩ = some (.int .i64 x.1.1) := fun o => (Keep.alloc w o (fun _ => False)).cell (rows_cell h2 (by rw [flat_get ent8 4 ent8_len hx (by omega)]; rfl)).1 (fun q => q)
  have c3 : ∀ o, (w.alloc o).cell? ⟨g, k * 4 + 2, none⟩ = some (.string x.1.2) := fun o => (Keep.alloc w o (fun _ => False)).cell (rows_cell h2 (by rw [flat_get ent8 4 ent8_len hx (by omega)]; rfl)).1 (fun q => q)
  have c4 : ∀ o, (w.alloc o).cell? ⟨g, k * 4 + 3, none⟩ = some (.int .i64 x.2) := fun o => (Keep.alloc w o (fun _ => False)).cell (rows_cell h2 (by rw [flat_get ent8 4 ent8_len hx (by omega)]; rfl)).1 (fun q => q)
  obtain ⟨pi, pi1, pi2, pi3, pi4⟩ := known_info
  have hrw := h.lt _ h4
  have PI := Lib.hid (And.intro pi1 (And.intro pi2 (And.intro pi3 pi4)))
  have A := Lib.hid (And.intro h (And.intro h1 (And.intro h2 (And.intro h3 h4))))
  have HX := Lib.hid (And.intro hx hn)
  have A2 := Lib.hid (And.intro hL h5)
  clear h h1 h2 h3 h4 h5 hL hidx pi1 pi2 pi3 pi4 hx hn hrw
  have b1 : (k : Int) < (n : Int) := by omega
  have b2 : (k : Int) ≤ (n : Int) := by omega
  have b3 : (k : Int) ≤ (cap : Int) := by omega
  have b4 : (k : Int) + 1 ≤ (n : Int) := by omega
  have b5 : (k : Int) + 1 ≤ (cap : Int) := by omega
  have b6 : (0 : Int) ≤ (k : Int) := by omega
  have b7 : (0 : Int) ≤ (k : Int) + 1 := by omega
  go_enter Tryd.func34, Tryd.ntmps34
  go_wp2_with (
    go_at_call 32
    refine hfi.mono ?_
    rintro e w0 ⟨rfl, hw0⟩
    clear hfi
    subst hw0)
  obtain ⟨wa, hwa⟩ : ∃ wa, wa = (w.alloc (.cells #[.string { data := #[] }, .int .i64 0, .string { data := #[] }, .int .i64 0] 65)).alloc (.cells #[.string (k8 x.1), .int .i64 x.1.1, .string x.1.2, .int .i64 x.2] 65) := ⟨_, rfl⟩
  have W : Keep w wa (fun _ => False) ∧ wa.heap[w.heap.size]? = some (.cells #[.string { data := #[] }, .int .i64 0, .string { data := #[] }, .int .i64 0] 65 (0, 0)) ∧ wa.heap[w.heap.size + 1]? = some (.cells #[.string (k8 x.1), .int .i64 x.1.1, .string x.1.2, .int .i64 x.2] 65 (0, 0)) ∧ wa.heap.size = w.heap.size + 1 + 1 := by
    rw [hwa]
    clear hwa
    have k1 := Keep.alloc w (.cells #[.string { data := #[] }, .int .i64 0, .string { data := #[] }, .int .i64 0] 65) (fun _ => False)
    have g1 := heap_alloc_eq w (.cells #[.string { data := #[] }, .int .i64 0, .string { data := #[] }, .int .i64 0] 65)
    have z1 : (w.alloc (.cells #[.string { data := #[] }, .int .i64 0, .string { data := #[] }, .int .i64 0] 65)).heap.size = w.heap.size + 1 := by simp
    generalize w.alloc (.cells #[.string { data := #[] }, .int .i64 0, .string { data := #[] }, .int .i64 0] 65) = w1 at *
    have k2 := Keep.alloc w1 (.cells #[.string (k8 x.1), .int .i64 x.1.1, .string x.1.2, .int .i64 x.2] 65) (fun _ => False)
    have g2 := heap_alloc_eq w1 (.cells #[.string (k8 x.1), .int .i64 x.1.1, .string x.1.2, .int .i64 x.2] 65)
    have z2 : (w1.alloc (.cells #[.string (k8 x.1), .int .i64 x.1.1, .string x.1.2, .int .i64 x.2] 65)).heap.size = w1.heap.size + 1 := by simp
    rw [z1] at g2 z2
    exact ⟨k1.trans k2 (fun _ q => q.elim), k2.get g1 (fun q => q), g2, z2⟩
  rw [← hwa]
  clear hwa
  have W := Lib.hid W
  have ha1 := W.out.1.get A.out.2.1 (fun q => q)
  have hra := A.out.1.aside W.out.1
  have c0a : wa.cell? ⟨rb, 1, none⟩ = some (.slice (some ⟨g, 0, none⟩) n cap) := by rw [cell_blk ha1]; rfl
  have cna : (wa.alloc (.cells #[] 65)).cell? ⟨rb, 1, none⟩ = some (.slice (some ⟨g, 0, none⟩) n cap) := by
    rw [cell_blk ((Keep.alloc wa _ (fun _ => False)).get ha1 (fun q => q))]; rfl
  have f0a : wa.frozen? ⟨rb, 1, none⟩ = false := free_blk ha1 _
  have RA := Lib.hid (And.intro hra ha1)
  clear hra ha1 c0 c1 c2 c3 c4
  have b8 : ((k : Int) + 1).toNat = k + 1 := by omega
  have b9 : IntKind.i64.wrap ((k : Int) + 1) = (k : Int) + 1 := IntWalk.i64_in _ (by omega)
  rcases Nat.eq_or_lt_of_le (show k + 1 ≤ cap by omega) with hcap | hcap
  · have hn1 : n = k + 1 ∨ n ≠ k + 1 := by omega
    clear hn1
    have R0 : ∀ w2, Keep wa w2 (fun _ => False) → w2.ownsRow 0 65 4 (.slice (some ⟨g, 0, none⟩) n cap) n (flat ent8 T) := fun w2 K => rows_keep A.out.2.2.1 (W.out.1.trans K (fun _ q => q.elim)) (fun _ _ q => q)
    have R1 : ∀ w2, Keep wa w2 (fun _ => False) → k = 0 ∨ ∃ ad, some (⟨g, 0, none⟩ : Addr) = some ad ∧ ∀ j u, (flat ent8 (T.take k))[j]? = some u → w2.cell? (ad.add j) = some u := fun w2 K => .inr ⟨_, rfl, rows_read (R0 w2 K) 0 (fun j u hj => by
      rw [Nat.zero_add]
      rw [flat_take ent8 4 ent8_len] at hj
      exact take_some hj)⟩
    have R2 : (flat ent8 (T.take k)).length = k * 4 := by rw [flat_len ent8 4 ent8_len, List.length_take, ← HX.out.2]; omega
    have K0 : Keep wa (World.drew (wa.alloc (.cells #[] 65))) (fun _ => False) := (Keep.alloc wa _ (fun _ => False)).trans (Keep.drew _ (fun _ => False)) (fun _ q => q.elim)
    have E0 : (World.drew (wa.alloc (.cells #[] 65))).ownsRow 0 65 4 (.slice (some ⟨w.heap.size + 1 + 1, 0, none⟩) 0 0) 0 [] := by rw [← W.out.2.2.2]; exact rows_empty (heap_alloc_eq wa _)
    have R3 : (flat ent8 (T.drop (k + 1))).length = 0 * 4 := by rw [flat_len ent8 4 ent8_len, List.length_drop, ← HX.out.2]; omega
    have R4 : ∀ w2, Keep wa w2 (fun _ => False) → 0 = 0 ∨ ∃ ad, some (⟨g, 0, none⟩ : Addr) = some ad ∧ ∀ j u, (flat ent8 (T.drop (k + 1)))[j]? = some u → w2.cell? (ad.add j) = some u := fun w2 K => .inl rfl
    have RR := Lib.hid (And.intro R0 (And.intro R1 (And.intro R2 (And.intro K0 (And.intro E0 (And.intro R3 R4))))))
    clear R0 R1 R2 R3 R4 K0 E0
    go_region_law
      (first
        | (refine step_append_row rfl _ _ _ (by rfl) Tryd.underlying60 PI.out.1 PI.out.2.1 PI.out.2.2.1 PI.out.2.2.2 known_cells (by omega) (by rfl) RR.out.2.2.2.2.1 (flat ent8 (T.take k)) (by rfl) RR.out.2.2.1 (RR.out.2.1 _ RR.out.2.2.2.1) (ent8_one _) (by omega) k (by omega) (flat ent8 (T.take k)) rfl ?_
           intro sa2 cap2 w2 ho hk hf2
           have B2 := hk.get (RR.out.2.2.2.1.get RA.out.2 (fun q => q)) (fun e => by
             have h5 := RA.out.1.lt _ A.out.2.2.2.2
             have h6 : rb = w.heap.size + 1 + 1 := by simpa [Value.ownBlock] using e
             have hq := W.out.2.2.2
             omega)
           have d0 : w2.cell? ⟨rb, 1, none⟩ = some (.slice (some ⟨g, 0, none⟩) n cap) := by rw [cell_blk B2]; rfl
           have K2 : Keep wa w2 (fun _ => False) := RR.out.2.2.2.1.trans hk (fun b q => .inr (by
             have h6 : b = w.heap.size + 1 + 1 := by simpa [Value.ownBlock] using q
             have hq := W.out.2.2.2
             omega))
           have F2 : ∀ b, (Value.slice sa2 k cap2).ownBlock = some b → wa.heap.size ≤ b := fun b q => by
             rcases hf2 b q with q | q
             · have h6 : w.heap.size + 1 + 1 = b := by simpa [Value.ownBlock] using q
               have hq := W.out.2.2.2
               omega
             · rw [q]; exact RR.out.2.2.2.1.size
           have N := Lib.hid (And.intro ho (And.intro K2 (And.intro F2 B2)))
           clear ho hk hf2 K2 F2 B2)
        | (refine step_append_row rfl _ _ _ (by rfl) Tryd.underlying60 PI.out.1 PI.out.2.1 PI.out.2.2.1 PI.out.2.2.2 known_cells (by omega) (by rfl) N.out.1 (flat ent8 (T.drop (k + 1))) (by rfl) RR.out.2.2.2.2.2.1 (.inl rfl) (ent8_one _) (by omega) (n - 1) (by omega) _ rfl ?_
           intro sa3 cap3 w3 ho3 hk3 hf3
           have B3 := hk3.get N.out.2.2.2 (fun e => by
             have h5 := RA.out.1.lt _ A.out.2.2.2.2
             have h6 := N.out.2.2.1 _ e.symm
             omega)
           have d3 : w3.cell? ⟨rb, 1, none⟩ = some (.slice (some ⟨g, 0, none⟩) n cap) := by rw [cell_blk B3]; rfl
           have g3 : w3.frozen? ⟨rb, 1, none⟩ = false := free_blk B3 _
           have K3 : Keep wa w3 (fun _ => False) := N.out.2.1.trans hk3 (fun b q => .inr (N.out.2.2.1 _ q.symm))
           have F3 : ∀ b, (Value.slice sa3 (n - 1) cap3).ownBlock = some b → wa.heap.size ≤ b := fun b q => by
             rcases hf3 b q with q | q
             · exact N.out.2.2.1 _ q
             · rw [q]; exact N.out.2.1.size
           have N3 := Lib.hid (And.intro ho3 (And.intro K3 F3))
           clear ho3 hk3 hf3 K3 F3 B3))
    all_goals
      obtain ⟨wz, hwz⟩ : ∃ wz, wz = w3.setCell ⟨rb, 1, none⟩ (.slice sa3 (n - 1) cap3) := ⟨_, rfl⟩
      rw [← hwz]
      have hne1 : ¬ w.heap.size = rb := fun e => by have := A.out.1.lt _ A.out.2.2.2.2; omega
      have hne2 : ¬ w.heap.size + 1 = rb := fun e => by have := A.out.1.lt _ A.out.2.2.2.2; omega
      have kz : Keep w3 wz (fun b => b = rb) := by rw [hwz]; exact Keep.setCell _ _ _
      have z4 := kz.get (N3.out.2.1.get W.out.2.1 (fun q => q)) hne1
      have z5 := kz.get (N3.out.2.1.get W.out.2.2.1 (fun q => q)) hne2
      have y1 := cell_blk z5 0
      have y2 := cell_blk z5 1
      have y21 := cell_blk z5 2
      have y22 := cell_blk z5 3
      have y3 := cell_blk z4 0
      have y4 := cell_blk z4 1
      have y41 := cell_blk z4 2
      have y42 := cell_blk z4 3
      have y5 := free_blk z4 0
      have y6 := free_blk z4 1
      have y61 := free_blk z4 2
      have y62 := free_blk z4 3
      simp only [List.getElem?_toArray, List.getElem?_cons_zero, List.getElem?_cons_succ] at y1 y2 y21 y22 y3 y4 y41 y42
      have HZ := Lib.hid (And.intro hwz z4)
      clear hwz hne1 hne2 kz z4 z5 d3 g3
      go_wp2
      obtain ⟨wf, hwf⟩ : ∃ wf, wf = (((wz.setCell ⟨w.heap.size, 0, none⟩ (.string (k8 x.1))).setCell ⟨w.heap.size, 1, none⟩ (.int .i64 x.1.1)).setCell ⟨w.heap.size, 2, none⟩ (.string x.1.2)).setCell ⟨w.heap.size, 3, none⟩ (.int .i64 x.2) := ⟨_, rfl⟩
      have zf : wf.heap[w.heap.size]? = some (.cells #[.string (k8 x.1), .int .i64 x.1.1, .string x.1.2, .int .i64 x.2] 65 (0, 0)) := by
        rw [hwf]
        exact heap_setCell_eq (.int .i64 x.2) (off := 3) (heap_setCell_eq (.string x.1.2) (off := 2) (heap_setCell_eq (.int .i64 x.1.1) (off := 1) (heap_setCell_eq (.string (k8 x.1)) (off := 0) HZ.out.2)))
      have x1 : wf.cell? ⟨w.heap.size, 0, none⟩ = some (.string (k8 x.1)) := by rw [cell_blk zf]; rfl
      have x2 : wf.cell? ⟨w.heap.size, 1, none⟩ = some (.int .i64 x.1.1) := by rw [cell_blk zf]; rfl
      have x3 : wf.cell? ⟨w.heap.size, 2, none⟩ = some (.string x.1.2) := by rw [cell_blk zf]; rfl
      have x4 : wf.cell? ⟨w.heap.size, 3, none⟩ = some (.int .i64 x.2) := by rw [cell_blk zf]; rfl
      rw [← hwf]
      refine bodyPost_ret (v := .agg #[.string (k8 x.1), .int .i64 x.1.1, .string x.1.2, .int .i64 x.2]) (by simp [results, Tryd.results34, go_sem, x1, x2, x3, x4]) rfl ⟨rfl, ?_⟩
      rw [hwf]
      clear x1 x2 x3 x4 zf hwf
      obtain ⟨ho3, K3, F3⟩ := N3.out
      have hlen3 : (T.eraseIdx k).length = n - 1 := by rw [List.length_eraseIdx, ← HX.out.2, if_pos hlt]
      obtain ⟨S', r1, r2⟩ := kref_row RA.out.1 RA.out.2 (A2.out.1.aside W.out.1) A.out.2.2.2.1 A.out.2.2.2.2 A2.out.2 K3 (fun b q => q.elim) (v := .slice sa3 (n - 1) cap3) hlen3 (by rw [List.eraseIdx_eq_take_drop_succ, flat_append]; exact ho3) (fun b q => .inr (F3 b q))
      rw [← HZ.out.1] at r1 r2
      have ks := (((Keep.setCell wz ⟨w.heap.size, 0, none⟩ (.string (k8 x.1))).trans (Keep.setCell _ ⟨w.heap.size, 1, none⟩ (.int .i64 x.1.1)) (fun b q => .inl q)).trans (Keep.setCell _ ⟨w.heap.size, 2, none⟩ (.string x.1.2)) (fun b q => .inl q)).trans (Keep.setCell _ ⟨w.heap.size, 3, none⟩ (.int .i64 x.2)) (fun b q => .inl q)
      have hnS : ∀ b, S' b → ¬ b = w.heap.size := fun b q e => by
        rcases r2.new b q with z | z
        · have := A.out.1.lt b z; omega
        · have := W.out.2.2.2; omega
      exact ⟨S', r1.keep ks hnS, ⟨((W.out.1.mono (T := S) (fun _ q => q.elim)).trans r2.keep (fun b q => .inl q)).trans ks (fun b q => .inr (by rw [show b = w.heap.size from q]; exact Nat.le_refl _)), fun b q => (r2.new b q).imp id (fun z => by have := W.out.2.2.2; omega)⟩⟩
  · have hcap2 : ¬ cap = k + 1 := by omega
    clear hcap
    have R0 : ∀ w2, Keep wa w2 (fun _ => False) → w2.ownsRow 0 65 4 (.slice (some ⟨g, 0, none⟩) n cap) n (flat ent8 T) := fun w2 K => rows_keep A.out.2.2.1 (W.out.1.trans K (fun _ q => q.elim)) (fun _ _ q => q)
    have R1 : ∀ w2, Keep wa w2 (fun _ => False) → k = 0 ∨ ∃ ad, some (⟨g, 0, none⟩ : Addr) = some ad ∧ ∀ j u, (flat ent8 (T.take k))[j]? = some u → w2.cell? (ad.add j) = some u := fun w2 K => .inr ⟨_, rfl, rows_read (R0 w2 K) 0 (fun j u hj => by
      rw [Nat.zero_add]
      rw [flat_take ent8 4 ent8_len] at hj
      exact take_some hj)⟩
    have R2 : (flat ent8 (T.take k)).length = k * 4 := by rw [flat_len ent8 4 ent8_len, List.length_take, ← HX.out.2]; omega
    have K0 : Keep wa (World.drew (wa.alloc (.cells #[] 65))) (fun _ => False) := (Keep.alloc wa _ (fun _ => False)).trans (Keep.drew _ (fun _ => False)) (fun _ q => q.elim)
    have E0 : (World.drew (wa.alloc (.cells #[] 65))).ownsRow 0 65 4 (.slice (some ⟨w.heap.size + 1 + 1, 0, none⟩) 0 0) 0 [] := by rw [← W.out.2.2.2]; exact rows_empty (heap_alloc_eq wa _)
    have R3 : (flat ent8 (T.drop (k + 1))).length = (n - (k + 1)) * 4 := by rw [flat_len ent8 4 ent8_len, List.length_drop, ← HX.out.2]
    have R4 : ∀ w2, Keep wa w2 (fun _ => False) → n - (k + 1) = 0 ∨ ∃ ad, some (⟨g, (k + 1) * 4, none⟩ : Addr) = some ad ∧ ∀ j u, (flat ent8 (T.drop (k + 1)))[j]? = some u → w2.cell? (ad.add j) = some u := fun w2 K => .inr ⟨_, rfl, rows_read (R0 w2 K) _ (fun j u hj => by
      rw [flat_drop ent8 4 ent8_len, List.getElem?_drop] at hj
      exact hj)⟩
    have RR := Lib.hid (And.intro R0 (And.intro R1 (And.intro R2 (And.intro K0 (And.intro E0 (And.intro R3 R4))))))
    clear R0 R1 R2 R3 R4 K0 E0
    go_region_law
      (first
        | (refine step_append_row rfl _ _ _ (by rfl) Tryd.underlying60 PI.out.1 PI.out.2.1 PI.out.2.2.1 PI.out.2.2.2 known_cells (by omega) (by rfl) RR.out.2.2.2.2.1 (flat ent8 (T.take k)) (by rfl) RR.out.2.2.1 (RR.out.2.1 _ RR.out.2.2.2.1) (ent8_one _) (by omega) k (by omega) (flat ent8 (T.take k)) rfl ?_
           intro sa2 cap2 w2 ho hk hf2
           have B2 := hk.get (RR.out.2.2.2.1.get RA.out.2 (fun q => q)) (fun e => by
             have h5 := RA.out.1.lt _ A.out.2.2.2.2
             have h6 : rb = w.heap.size + 1 + 1 := by simpa [Value.ownBlock] using e
             have hq := W.out.2.2.2
             omega)
           have d0 : w2.cell? ⟨rb, 1, none⟩ = some (.slice (some ⟨g, 0, none⟩) n cap) := by rw [cell_blk B2]; rfl
           have K2 : Keep wa w2 (fun _ => False) := RR.out.2.2.2.1.trans hk (fun b q => .inr (by
             have h6 : b = w.heap.size + 1 + 1 := by simpa [Value.ownBlock] using q
             have hq := W.out.2.2.2
             omega))
           have F2 : ∀ b, (Value.slice sa2 k cap2).ownBlock = some b → wa.heap.size ≤ b := fun b q => by
             rcases hf2 b q with q | q
             · have h6 : w.heap.size + 1 + 1 = b := by simpa [Value.ownBlock] using q
               have hq := W.out.2.2.2
               omega
             · rw [q]; exact RR.out.2.2.2.1.size
           have N := Lib.hid (And.intro ho (And.intro K2 (And.intro F2 B2)))
           clear ho hk hf2 K2 F2 B2)
        | (refine step_append_row rfl _ _ _ (by rfl) Tryd.underlying60 PI.out.1 PI.out.2.1 PI.out.2.2.1 PI.out.2.2.2 known_cells (by omega) (by rfl) N.out.1 (flat ent8 (T.drop (k + 1))) (by rfl) RR.out.2.2.2.2.2.1 (RR.out.2.2.2.2.2.2 _ N.out.2.1) (ent8_one _) (by omega) (n - 1) (by omega) _ rfl ?_
           intro sa3 cap3 w3 ho3 hk3 hf3
           have B3 := hk3.get N.out.2.2.2 (fun e => by
             have h5 := RA.out.1.lt _ A.out.2.2.2.2
             have h6 := N.out.2.2.1 _ e.symm
             omega)
           have d3 : w3.cell? ⟨rb, 1, none⟩ = some (.slice (some ⟨g, 0, none⟩) n cap) := by rw [cell_blk B3]; rfl
           have g3 : w3.frozen? ⟨rb, 1, none⟩ = false := free_blk B3 _
           have K3 : Keep wa w3 (fun _ => False) := N.out.2.1.trans hk3 (fun b q => .inr (N.out.2.2.1 _ q.symm))
           have F3 : ∀ b, (Value.slice sa3 (n - 1) cap3).ownBlock = some b → wa.heap.size ≤ b := fun b q => by
             rcases hf3 b q with q | q
             · exact N.out.2.2.1 _ q
             · rw [q]; exact N.out.2.1.size
           have N3 := Lib.hid (And.intro ho3 (And.intro K3 F3))
           clear ho3 hk3 hf3 K3 F3 B3))
    all_goals
      obtain ⟨wz, hwz⟩ : ∃ wz, wz = w3.setCell ⟨rb, 1, none⟩ (.slice sa3 (n - 1) cap3) := ⟨_, rfl⟩
      rw [← hwz]
      have hne1 : ¬ w.heap.size = rb := fun e => by have := A.out.1.lt _ A.out.2.2.2.2; omega
      have hne2 : ¬ w.heap.size + 1 = rb := fun e => by have := A.out.1.lt _ A.out.2.2.2.2; omega
      have kz : Keep w3 wz (fun b => b = rb) := by rw [hwz]; exact Keep.setCell _ _ _
      have z4 := kz.get (N3.out.2.1.get W.out.2.1 (fun q => q)) hne1
      have z5 := kz.get (N3.out.2.1.get W.out.2.2.1 (fun q => q)) hne2
      have y1 := cell_blk z5 0
      have y2 := cell_blk z5 1
      have y21 := cell_blk z5 2
      have y22 := cell_blk z5 3
      have y3 := cell_blk z4 0
      have y4 := cell_blk z4 1
      have y41 := cell_blk z4 2
      have y42 := cell_blk z4 3
      have y5 := free_blk z4 0
      have y6 := free_blk z4 1
      have y61 := free_blk z4 2
      have y62 := free_blk z4 3
      simp only [List.getElem?_toArray, List.getElem?_cons_zero, List.getElem?_cons_succ] at y1 y2 y21 y22 y3 y4 y41 y42
      have HZ := Lib.hid (And.intro hwz z4)
      clear hwz hne1 hne2 kz z4 z5 d3 g3
      go_wp2
      obtain ⟨wf, hwf⟩ : ∃ wf, wf = (((wz.setCell ⟨w.heap.size, 0, none⟩ (.string (k8 x.1))).setCell ⟨w.heap.size, 1, none⟩ (.int .i64 x.1.1)).setCell ⟨w.heap.size, 2, none⟩ (.string x.1.2)).setCell ⟨w.heap.size, 3, none⟩ (.int .i64 x.2) := ⟨_, rfl⟩
      have zf : wf.heap[w.heap.size]? = some (.cells #[.string (k8 x.1), .int .i64 x.1.1, .string x.1.2, .int .i64 x.2] 65 (0, 0)) := by
        rw [hwf]
        exact heap_setCell_eq (.int .i64 x.2) (off := 3) (heap_setCell_eq (.string x.1.2) (off := 2) (heap_setCell_eq (.int .i64 x.1.1) (off := 1) (heap_setCell_eq (.string (k8 x.1)) (off := 0) HZ.out.2)))
      have x1 : wf.cell? ⟨w.heap.size, 0, none⟩ = some (.string (k8 x.1)) := by rw [cell_blk zf]; rfl
      have x2 : wf.cell? ⟨w.heap.size, 1, none⟩ = some (.int .i64 x.1.1) := by rw [cell_blk zf]; rfl
      have x3 : wf.cell? ⟨w.heap.size, 2, none⟩ = some (.string x.1.2) := by rw [cell_blk zf]; rfl
      have x4 : wf.cell? ⟨w.heap.size, 3, none⟩ = some (.int .i64 x.2) := by rw [cell_blk zf]; rfl
      rw [← hwf]
      refine bodyPost_ret (v := .agg #[.string (k8 x.1), .int .i64 x.1.1, .string x.1.2, .int .i64 x.2]) (by simp [results, Tryd.results34, go_sem, x1, x2, x3, x4]) rfl ⟨rfl, ?_⟩
      rw [hwf]
      clear x1 x2 x3 x4 zf hwf
      obtain ⟨ho3, K3, F3⟩ := N3.out
      have hlen3 : (T.eraseIdx k).length = n - 1 := by rw [List.length_eraseIdx, ← HX.out.2, if_pos hlt]
      obtain ⟨S', r1, r2⟩ := kref_row RA.out.1 RA.out.2 (A2.out.1.aside W.out.1) A.out.2.2.2.1 A.out.2.2.2.2 A2.out.2 K3 (fun b q => q.elim) (v := .slice sa3 (n - 1) cap3) hlen3 (by rw [List.eraseIdx_eq_take_drop_succ, flat_append]; exact ho3) (fun b q => .inr (F3 b q))
      rw [← HZ.out.1] at r1 r2
      have ks := (((Keep.setCell wz ⟨w.heap.size, 0, none⟩ (.string (k8 x.1))).trans (Keep.setCell _ ⟨w.heap.size, 1, none⟩ (.int .i64 x.1.1)) (fun b q => .inl q)).trans (Keep.setCell _ ⟨w.heap.size, 2, none⟩ (.string x.1.2)) (fun b q => .inl q)).trans (Keep.setCell _ ⟨w.heap.size, 3, none⟩ (.int .i64 x.2)) (fun b q => .inl q)
      have hnS : ∀ b, S' b → ¬ b = w.heap.size := fun b q e => by
        rcases r2.new b q with z | z
        · have := A.out.1.lt b z; omega
        · have := W.out.2.2.2; omega
      exact ⟨S', r1.keep ks hnS, ⟨((W.out.1.mono (T := S) (fun _ q => q.elim)).trans r2.keep (fun b q => .inl q)).trans ks (fun b q => .inr (by rw [show b = w.heap.size from q]; exact Nat.le_refl _)), fun b q => (r2.new b q).imp id (fun z => by have := W.out.2.2.2; omega)⟩⟩


end Go.Proofs.YtjicoebcmfnooaaDoor
