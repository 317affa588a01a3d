/-
  What the statements of layer 9 share: known, Within, bytes of an argument.
-/
import Derived.Test.YtemoickagefjmaaStructs
import Derived.Test.YtemoickagefjmaaBlock8
import Derived.Lib.SlBytesConst
import Derived.OpenShut
namespace Go.Proofs.Ytemoickagefjmaa
open Go Go.RowKit
set_option linter.unusedSectionVars false
set_option linter.unusedSimpArgs false
set_option linter.unusedVariables false
set_option maxRecDepth 100000

theorem Turn.refl (w : World) (S : Nat → Prop) : Turn w S w S := ⟨Keep.refl _ _, fun b q => .inl q⟩
theorem Turn.trans {w w1 w2 : World} {S S1 S2 : Nat → Prop} (h : Turn w S w1 S1) (k : Turn w1 S1 w2 S2) : Turn w S w2 S2 :=
  ⟨h.keep.trans k.keep h.new, fun b q => (k.new b q).elim (h.new b) (fun q => .inr (by have := h.keep.size; omega))⟩

theorem Turn.step {w w1 w2 : World} {S S1 : Nat → Prop} (h : Turn w S w1 S1) (k : Keep w1 w2 (fun _ => False)) : Turn w S w2 S1 :=
  ⟨h.keep.trans k (fun b q => q.elim), h.new⟩

theorem BytesIn.turn {w w' : World} {v : Value} {l : List Int} {S S' : Nat → Prop} (h : BytesIn w v l S) (k : Turn w S w' S') : BytesIn w' v l S' := by
  obtain ⟨h1, a, cap, h2, h3⟩ := h
  by_cases hl : l = []
  · exact ⟨h1, a, cap, h2, .inl hl⟩
  · obtain ⟨b, off, h4, h5, h6⟩ := h3.resolve_left hl
    refine ⟨h1, a, cap, h2, .inr ⟨b, off, h4, fun q => ?_, fun i hi => k.keep.cell (h6 i hi) h5⟩⟩
    have h0 := World.block_lt_of_cell? w _ (h6 0 (List.length_pos_iff.2 hl))
    rcases k.new b q with q | q
    · exact h5 q
    · have : b < w.heap.size := h0
      omega

theorem BytesIn.news {w : World} {sa : Option Addr} {m c : Nat} {l : List Int} {D : Nat → Prop} (h : BytesIn w (.slice sa m c) l D) :
    m = 0 ∨ ∃ ad, sa = some ad ∧ ∀ j u, (l.map (Value.int .u8))[j]? = some u → w.cell? (ad.add j) = some u := by
  obtain ⟨h1, a, cap, h2, h3⟩ := h
  simp only [Value.slice.injEq] at h2
  obtain ⟨rfl, rfl, rfl⟩ := h2
  rcases h3 with rfl | ⟨b, off, rfl, _, h6⟩
  · exact .inl rfl
  · refine .inr ⟨_, rfl, fun j u hu => ?_⟩
    have hj : j < l.length := by
      have := (List.getElem?_eq_some_iff.1 hu).1
      simpa using this
    have ha : (Addr.add ⟨b, off, none⟩ j) = ⟨b, off + j, none⟩ := by
      unfold Addr.add
      split
      · rename_i h0; subst h0; rfl
      · rfl
    rw [ha, h6 j hj]
    simp [hj] at hu ⊢
    exact hu

theorem BytesNew.own {w : World} {v : Value} {l : List Int} {B : Nat} (h : BytesNew w v l B) (hl : l.length ≤ maxLen) : w.ownsRow B 5 1 v l.length (l.map (Value.int .u8)) := by
  rcases h with ⟨rfl, rfl⟩ | ⟨b, hb, rfl, hc⟩
  · exact World.ownsRow_nil _ _ _ _
  · exact ⟨by simp, .inr ⟨b, l.length, _, rfl, hb, hc, Nat.le_refl _, hl, by simp, List.take_of_length_le (by simp)⟩⟩

theorem own_slice {w : World} {base : Nat} {e : TypeId} {v : Value} {n : Nat} {xs : List Value} (h : w.ownsRow base e 1 v n xs) : ∃ a cap, v = .slice a n cap := by
  rcases h.2 with ⟨rfl, rfl⟩ | ⟨g, cap, cur, rfl, _⟩
  · exact ⟨_, _, rfl⟩
  · exact ⟨_, _, rfl⟩

theorem BytesNew.cell {w : World} {v : Value} {l : List Int} {B : Nat} (h : BytesNew w v l B) (hl : l ≠ []) : ∃ b, B ≤ b ∧ v = .slice (some ⟨b, 0, none⟩) l.length l.length ∧ w.heap[b]? = some (.cells (l.map (Value.int .u8)).toArray 5 (0, 0)) :=
  h.resolve_left (fun q => hl q.1)

theorem BytesNew.bytesIn {w : World} {v : Value} {l : List Int} {B : Nat} {D : Nat → Prop} (h : BytesNew w v l B) (hl : ∀ c ∈ l, 0 ≤ c ∧ c < 256) (hD : ∀ b, D b → b < B) : BytesIn w v l D := by
  refine ⟨hl, ?_⟩
  rcases h with ⟨rfl, rfl⟩ | ⟨b, hb, rfl, hc⟩
  · exact ⟨none, 0, rfl, .inl rfl⟩
  · refine ⟨_, _, rfl, .inr ⟨b, 0, rfl, fun q => by have := hD b q; omega, fun i hi => ?_⟩⟩
    rw [cell_blk hc]
    simp [hi]

theorem u8_row : ∃ i z, Try.prog.info? 5 = some i ∧ i.zero = some z ∧ i.size = 1 ∧ i.bytes ≤ 64 ∧ z.cells.size = 1 := by
  have h : (Try.prog.info? 5).map (fun i => (i.zero, i.size, i.bytes)) = some (some (.int .u8 0), 1, 1) := by kernel_rfl
  cases hh : Try.prog.info? 5 with
  | none => rw [hh] at h; simp at h
  | some i =>
    rw [hh] at h
    simp only [Option.map_some, Option.some.injEq, Prod.mk.injEq] at h
    exact ⟨i, _, rfl, h.1, h.2.1, by omega, rfl⟩

def V1 : PoolV := (PoolV.write ⟨1, 1, [(1, FileV.empty)]⟩ 1 20 [120]).1

theorem V1_ok : (PoolV.write ⟨1, 1, [(1, FileV.empty)]⟩ 1 20 [120]).2 = 0 := by decide
theorem V1_read : V1.read 1 0 99 = (List.replicate 20 0 ++ [120], 0) := by decide
theorem V1_used : V1.used 1 = 1 := by decide
theorem V1_left : V1.left = 0 := by decide

set_option maxHeartbeats 1000000 in
theorem known_c (w : World) : Calls Try.prog 10 #[] w fun r w' => r = .returned (.bool true) ∧ Keep w w' (fun _ => False) := by
  have kc := fun (w : World) (C : Array Value) (n c : Nat) => Lib.run_convert_bytes_const (P := Try.prog) w 30 5 C n c Try.underlying30 Try.underlying5
  go_enter Try.func10, Try.ntmps10
  go_wp2_with (first
    | (go_at_call 9
       refine (new_c _ 1 (by omega) (by omega)).mono ?_
       rintro e w1 ⟨pb, S1, rfl, hp1, ht1⟩
       have P1 := Lib.hid (And.intro hp1 ht1)
       clear hp1 ht1
       unfold ptr)
    | (go_at_call 12
       refine (file_cc P1.out.1 (PoolV.new_ok (by omega) (by omega)) (by simp)).mono ?_
       rintro e w2 ⟨rfl, S2, hp2, ht2⟩
       have P2 := Lib.hid (And.intro hp2 ht2)
       clear hp2 ht2)
    | (go_at_call 19
       have hp2' := P2.out.1.keep (Keep.alloc w2 (.cells #[.int .u8 120] 5 (1, 2)) (fun _ => False)) (fun b _ q => q)
       refine (write_c hp2' (PoolV.new_ok (by omega) (by omega)).file 1 20 (l := [120]) ⟨by simp, some ⟨w2.heap.size, 0, none⟩, 1, rfl, .inr ⟨w2.heap.size, 0, rfl, fun q => Nat.lt_irrefl _ (P2.out.1.lt q), ?_⟩⟩ (by unfold maxLen; simp)).mono ?_
       · intro i hi
         have : i = 0 := by simpa using hi
         subst this
         rw [cell_blk (heap_alloc_eq w2 _)]; rfl
       rintro e w3 ⟨rfl, S3, hp3, ht3⟩
       have P3 := Lib.hid (And.intro hp3 ht3)
       clear hp3 ht3 hp2'
       rw [show (PoolV.write (PoolV.file ⟨1, 0, []⟩) 1 20 [120]).2 = 0 from V1_ok])
    | (go_at_call 16
       refine (read_c P3.out.1 1 0 99).mono ?_
       rintro e w4 ⟨v, rfl, hv, hk4⟩
       have e1 : (PoolV.write (PoolV.file ⟨1, 0, []⟩) 1 20 [120]).1.read 1 0 99 = (List.replicate 20 0 ++ [120], 0) := V1_read
       rw [e1] at hv
       rw [e1]
       obtain ⟨nb, hnb, rfl, hb⟩ := hv.cell (by simp)
       have c0 : w4.cell? ⟨nb, 0, none⟩ = some (.int .u8 0) := by rw [cell_blk hb]; rfl
       have c20 : w4.cell? ⟨nb, 20, none⟩ = some (.int .u8 120) := by rw [cell_blk hb]; rfl
       have P4 := Lib.hid (And.intro hb hk4)
       clear hv hb hk4 e1 hnb
       simp only [List.length_append, List.length_replicate, List.length_cons, List.length_nil, Nat.reduceAdd])
    | (go_at_call 26
       refine (used_c (P3.out.1.keep P4.out.2 (fun b _ q => q)) 1).mono ?_
       rintro e w5 ⟨rfl, rfl⟩
       rw [show (PoolV.write (PoolV.file ⟨1, 0, []⟩) 1 20 [120]).1.used 1 = 1 from V1_used])
    | (go_at_call 28
       refine (left_c (P3.out.1.keep P4.out.2 (fun b _ q => q))).mono ?_
       rintro e w5 ⟨rfl, rfl⟩
       rw [show (PoolV.write (PoolV.file ⟨1, 0, []⟩) 1 20 [120]).1.left = 0 from V1_left]))
  go_ret
  exact ⟨rfl, ((((P1.out.2.trans P2.out.2).step (Keep.alloc _ _ _)).trans P3.out.2).step P4.out.2).keep⟩

end Go.Proofs.Ytemoickagefjmaa
