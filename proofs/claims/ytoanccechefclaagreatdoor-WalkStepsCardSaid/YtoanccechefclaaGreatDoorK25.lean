/-
  Parts of the walk's proof: Read, Write, Clean, Name1, Name2. (joined by pack.py)
-/
import Derived.Deep.RegionHeld3
import Derived.Deep.Cut
import Derived.BigRegion
import Derived.Lib.Join
import Derived.Test.YtoanccechefclaaGreatDoorK04
import Derived.Test.YtoanccechefclaaGreatDoorK15
import Derived.Test.YtoanccechefclaaGreatDoorK24
set_option linter.unusedSectionVars false
set_option linter.unusedSimpArgs false
set_option linter.unusedVariables false
namespace Go.Proofs.YtoanccechefclaaGreatDoor
set_option maxRecDepth 100000
open Go Go.RowKit Go.Shelf
attribute [local go_sem] Oper.semAt_some
def readP (l : Bl) : (Bool × Bool × List Bl) × Int :=
  if l = [] then ((false, false, []), 32)
  else if 4096 < l.length then ((false, false, []), 45)
  else if 0 ≤ Lib.indexByte l 0 then ((false, false, []), 39)
  else if (parts l).any (fun p => decide (255 < p.length)) then ((false, false, []), 45)
  else ((decide (l.head? = some 47), decide (l.getLast? = some 47), parts l), 0)
theorem at_eq (s : Bl) (i : Nat) (h : i < (txB s).size) : ((((txB s)[i]'h).toNat : Int) == 47) = decide (s[i]? = some 47) := by
  have hi : i < s.length := by rw [← txB_size]; exact h
  have e : (txB s)[i]'h = s[i] := rfl
  rw [e, List.getElem?_eq_getElem hi]
  by_cases q : s[i] = 47
  · rw [q]; rfl
  · have q2 : ¬ (s[i].toNat : Int) = 47 := fun z => by
      have h3 : s[i].toNat = (47 : UInt8).toNat := by
        have h4 : s[i].toNat = 47 := by omega
        rw [h4]; rfl
      exact q (UInt8.toNat_inj.1 h3)
    rw [beq_eq_false_iff_ne.2 q2]
    simp [q]
theorem readP_ok {s : Bl} (h0 : ¬ s = []) (h1 : ¬ 4096 < s.length) (h2 : ¬ 0 ≤ Lib.indexByte s 0) (h3 : ∀ x ∈ (parts s).map txB, x.size ≤ 255) : readP s = ((decide (s[0]? = some 47), decide (s[s.length - 1]? = some 47), parts s), 0) := by
  have hany : (parts s).any (fun p => decide (255 < p.length)) = false := by
    rw [List.any_eq_false]
    intro p hp
    have h := h3 _ (List.mem_map_of_mem hp)
    rw [txB_size] at h
    simp; omega
  unfold readP
  rw [if_neg h0, if_neg h1, if_neg h2, if_neg (by rw [hany]; simp), List.head?_eq_getElem?, List.getLast?_eq_getElem?]
theorem readP_long {s : Bl} (h0 : ¬ s = []) (h1 : ¬ 4096 < s.length) (h2 : ¬ 0 ≤ Lib.indexByte s 0) {pre : List ByteArray} (hp : pre <+: (parts s).map txB) {x : ByteArray} (hx : x ∈ pre) (h3 : 255 < x.size) : readP s = ((false, false, []), 45) := by
  have hany : (parts s).any (fun p => decide (255 < p.length)) = true := by
    rw [List.any_eq_true]
    obtain ⟨p, hp1, rfl⟩ := List.mem_map.1 (hp.subset hx)
    rw [txB_size] at h3
    exact ⟨p, hp1, by simpa using h3⟩
  unfold readP
  rw [if_neg h0, if_neg h1, if_neg h2, if_pos hany]
theorem str_info : ∃ i, Tryz.prog.info? 9 = some i ∧ i.zero = some (.string ByteArray.empty) ∧ i.size = 1 ∧ i.bytes ≤ 64 := by
  refine ⟨_, rfl, ?_, ?_, ?_⟩
  · kernel_rfl
  · kernel_rfl
  · decide +kernel
theorem read_res {W : World} {b2 b3 : Nat} {r1 r2 : Bool} {v : Value} {e : Int} {T : Array Value} (z2 : W.heap[b2]? = some (.cells #[.bool r1, .bool r2, v] 180 (0, 0))) (z3 : W.heap[b3]? = some (.cells #[.int .i64 e] 46 (0, 0)))
    (h2 : T.getD 2 undef = .pointer (some ⟨b2, 0, none⟩)) (h3 : T.getD 3 undef = .pointer (some ⟨b3, 0, none⟩)) : (results Tryz.f100 T).run Tryz.prog W = .ok (.tuple #[.agg #[.bool r1, .bool r2, v], .int .i64 e]) W := by
  have y0 : W.cell? ⟨b2, 0, none⟩ = some (.bool r1) := by rw [cell_blk z2]; rfl
  have y1 : W.cell? ⟨b2, 1, none⟩ = some (.bool r2) := by rw [cell_blk z2]; rfl
  have y2 : W.cell? ⟨b2, 2, none⟩ = some v := by rw [cell_blk z2]; rfl
  have y3 : W.cell? ⟨b3, 0, none⟩ = some (.int .i64 e) := by rw [cell_blk z3]; rfl
  have h2' : T[2]?.getD undef = .pointer (some ⟨b2, 0, none⟩) := by simpa using h2
  have h3' : T[3]?.getD undef = .pointer (some ⟨b3, 0, none⟩) := by simpa using h3
  simp [results, Tryz.results100, go_sem, h2', h3', y0, y1, y2, y3]
theorem kn_of {U U' : World} {n : Nat} {S : Nat → Prop} (k : Keep U U' S) (hn : n + 4 ≤ U.heap.size) (hS : ∀ b, S b → (b < n ∨ n + 4 ≤ b) ∧ ∃ c t fr, U.heap[b]? = some (.cells c t fr)) : Kn n U U' ∧ ∀ B, KeepsFrom B U U' := by
  have h : ∀ B, KeepsFrom B U U' := fun B => ⟨k.size, fun b o _ hb ho => k.get hb (fun q => by
    obtain ⟨_, c, t, fr, e⟩ := hS b q
    rw [hb] at e
    cases e
    simp [Obj.isCells] at ho)⟩
  refine ⟨⟨h n, fun b h1 h2 => ?_⟩, h⟩
  exact k.block b (by omega) (fun z => by have := (hS b z).1; omega)
def RdI (w : World) (r1 r2 : Bool) (pre : List ByteArray) (U : World) : Prop :=
  Keep w U (fun _ => False) ∧ ∃ v, U.heap[w.heap.size + 1 + 1]? = some (.cells #[.bool r1, .bool r2, v] 180 (0, 0)) ∧ U.ownsRow 0 9 1 v pre.length (pre.map Value.string) ∧ (∀ b, v.ownBlock = some b → w.heap.size + 12 ≤ b) ∧
    U.heap[w.heap.size]? = some (.cells #[.bool false, .bool false, .slice none 0 0] 180 (0, 0)) ∧ U.heap[w.heap.size + 1]? = some (.cells #[.int .i64 0] 46 (0, 0)) ∧ ∀ x ∈ pre, x.size ≤ 255
def RdX (w : World) (c : Code) (pre : List ByteArray) (U : World) : Prop :=
  c = .ret ∧ Keep w U (fun _ => False) ∧ U.heap[w.heap.size]? = some (.cells #[.bool false, .bool false, .slice none 0 0] 180 (0, 0)) ∧ U.heap[w.heap.size + 1]? = some (.cells #[.int .i64 45] 46 (0, 0)) ∧ ∃ x ∈ pre, 255 < x.size
theorem rd_turns {w A : World} {B : Nat} (hB : B = w.heap.size + 4) {b : Nat} (h : Turns B (fun b => b = w.heap.size + 7) A b) : w.heap.size + 4 ≤ b ∧ (b = w.heap.size + 7 ∨ ∃ o, A.heap[b]? = some o ∧ o.isCells = false) := by
  subst hB
  rcases h with h | ⟨h1, h2⟩
  · have h' : b = w.heap.size + 7 := h
    exact ⟨by omega, .inl h'⟩
  · exact ⟨h1, .inr h2⟩
theorem rdI_abides (w : World) (r1 r2 : Bool) (B : Nat) (hB : B = w.heap.size + 4) : AbidesX B (fun b => b = w.heap.size + 7) (RdI w r1 r2) := by
  rintro pre A A' ⟨k, v, h1, h2, h3, h4, h5, h6⟩ kk
  refine ⟨k.trans kk (fun b q => .inr (by have := (rd_turns hB q).1; omega)), v, kk.get h1 (fun q => by have := (rd_turns hB q).1; omega), rows_keep h2 kk (fun b q z => ?_), h3, kk.get h4 (fun q => by have := (rd_turns hB q).1; omega), kk.get h5 (fun q => by have := (rd_turns hB q).1; omega), h6⟩
  have h7 := h3 b q
  rcases (rd_turns hB z).2 with e | e
  · omega
  · rcases h2.2 with ⟨e1, _⟩ | ⟨g, cap, cur, e1, _, hb, _⟩
    · rw [e1] at q; simp [Value.ownBlock] at q
    · rw [e1] at q
      simp only [Value.ownBlock, Option.some.injEq] at q
      subst q
      exact not_cells hb e
theorem rdX_abides (w : World) (c : Code) (B : Nat) (hB : B = w.heap.size + 4) : AbidesX B (fun b => b = w.heap.size + 7) (RdX w c) := by
  rintro pre A A' ⟨hc, k, h4, h5, h6⟩ kk
  exact ⟨hc, k.trans kk (fun b q => .inr (by have := (rd_turns hB q).1; omega)), kk.get h4 (fun q => by have := (rd_turns hB q).1; omega), kk.get h5 (fun q => by have := (rd_turns hB q).1; omega), h6⟩
set_option maxRecDepth 100000 in
set_option maxHeartbeats 4000000 in
theorem read_c (s : Bl) (w : World) :
    Calls Tryz.prog 100 #[.string (txB s)] w fun r w' => ∃ v, r = .returned (.tuple #[.agg #[.bool (readP s).1.1, .bool (readP s).1.2.1, v], .int .i64 (readP s).2]) ∧ w'.ownsRow 0 9 1 v (readP s).1.2.2.length ((readP s).1.2.2.map fun p => .string (txB p)) ∧ Keep w w' (fun _ => False) := by
  have hix := fun U => Tryz.strings_IndexByte (txB s) 0 U
  rw [txB_list] at hix
  have hz : ((0 : Int).toNat.toUInt8) = (0 : UInt8) := rfl
  rw [hz] at hix
  have hsz := txB_size s
  by_cases h0 : s = []
  · have e0 : (txB s).toList.isEmpty = true := by rw [ByteArray.toList_eq, List.isEmpty_iff]; exact h0
    have H0 := Lib.hid (show readP s = ((false, false, []), 32) by unfold readP; rw [if_pos h0])
    clear h0 hix hz
    refine calls_marks Tryz.func100 rfl ?_
    simp only [Tryz.ntmps100, List.size_toArray, List.length_cons, List.length_nil, Nat.reduceAdd, Nat.reduceSub, Array.replicate_succ, Array.replicate_zero, List.push_toArray, List.append_toArray, List.nil_append, List.cons_append]
    go_wp2
    refine leaves_none ⟨_, read_res (b2 := w.heap.size) (b3 := w.heap.size + 1) (r1 := false) (r2 := false) (v := .slice none 0 0) (e := 32) ?_ ?_ rfl rfl, ?_⟩
    · exact (Keep.alloc _ _ (fun _ => False)).get (heap_alloc_eq w _) (fun q => q)
    · have h := heap_alloc_eq (w.alloc (.cells #[.bool false, .bool false, .slice none 0 0] 180)) (.cells #[.int .i64 32] 46)
      rwa [World.size_alloc] at h
    · rw [H0.out]
      exact ⟨_, rfl, rows_nil _ _ _, (Keep.alloc _ _ _).trans (Keep.alloc _ _ (fun _ => False)) (fun _ q => q.elim)⟩
  · have e0 : ¬ (txB s).toList = [] := by rw [ByteArray.toList_eq]; exact h0
    have e0' : (txB s).toList.isEmpty = false := by rw [List.isEmpty_eq_false_iff]; exact e0
    by_cases h1 : 4096 < s.length
    · have g1 : (4096 : Int) < ((txB s).size : Int) := by rw [hsz]; omega
      have H0 := Lib.hid (show readP s = ((false, false, []), 45) by unfold readP; rw [if_neg h0, if_pos h1])
      rw [hsz] at g1
      clear h0 hix hz
      refine calls_marks Tryz.func100 rfl ?_
      simp only [Tryz.ntmps100, List.size_toArray, List.length_cons, List.length_nil, Nat.reduceAdd, Nat.reduceSub, Array.replicate_succ, Array.replicate_zero, List.push_toArray, List.append_toArray, List.nil_append, List.cons_append]
      go_wp2
      refine leaves_none ⟨_, read_res (b2 := w.heap.size) (b3 := w.heap.size + 1) (r1 := false) (r2 := false) (v := .slice none 0 0) (e := 45) ?_ ?_ rfl rfl, ?_⟩
      · exact (Keep.alloc _ _ (fun _ => False)).get (heap_alloc_eq w _) (fun q => q)
      · have h := heap_alloc_eq (w.alloc (.cells #[.bool false, .bool false, .slice none 0 0] 180)) (.cells #[.int .i64 45] 46)
        rwa [World.size_alloc] at h
      · rw [H0.out]
        exact ⟨_, rfl, rows_nil _ _ _, (Keep.alloc _ _ _).trans (Keep.alloc _ _ (fun _ => False)) (fun _ q => q.elim)⟩
    · have g1 : ¬ (4096 : Int) < ((txB s).size : Int) := by rw [hsz]; omega
      obtain ⟨ix, hx⟩ : ∃ ix, ix = Lib.indexByte s 0 := ⟨_, rfl⟩
      rw [← hx] at hix
      by_cases h2 : 0 ≤ ix
      · have H0 := Lib.hid (show readP s = ((false, false, []), 39) by unfold readP; rw [if_neg h0, if_neg h1, if_pos (by rw [← hx]; exact h2)])
        clear h0 hx hz
        refine calls_marks Tryz.func100 rfl ?_
        simp only [Tryz.ntmps100, List.size_toArray, List.length_cons, List.length_nil, Nat.reduceAdd, Nat.reduceSub, Array.replicate_succ, Array.replicate_zero, List.push_toArray, List.append_toArray, List.nil_append, List.cons_append]
        go_wp2_with (
          go_at_call 108
          refine (hix _).mono ?_
          rintro e w1 ⟨rfl, rfl⟩)
        refine leaves_none ⟨_, read_res (b2 := w.heap.size) (b3 := w.heap.size + 1) (r1 := false) (r2 := false) (v := .slice none 0 0) (e := 39) ?_ ?_ rfl rfl, ?_⟩
        · exact (Keep.alloc _ _ (fun _ => False)).get (heap_alloc_eq w _) (fun q => q)
        · have h := heap_alloc_eq (w.alloc (.cells #[.bool false, .bool false, .slice none 0 0] 180)) (.cells #[.int .i64 39] 46)
          rwa [World.size_alloc] at h
        · rw [H0.out]
          exact ⟨_, rfl, rows_nil _ _ _, (Keep.alloc _ _ _).trans (Keep.alloc _ _ (fun _ => False)) (fun _ q => q.elim)⟩
      · refine calls_marks Tryz.func100 rfl ?_
        simp only [Tryz.ntmps100, List.size_toArray, List.length_cons, List.length_nil, Nat.reduceAdd, Nat.reduceSub, Array.replicate_succ, Array.replicate_zero, List.push_toArray, List.append_toArray, List.nil_append, List.cons_append]
        go_upto_region 7 with (
          go_at_call 108
          refine (hix _).mono ?_
          rintro e w1 ⟨rfl, rfl⟩)
        have hpos : 0 < s.length := by
          rcases Nat.eq_zero_or_pos s.length with h | h
          · exact absurd (List.length_eq_zero_iff.1 h) h0
          · exact h
        have g3 : (0 : Int) < (s.length : Int) := by omega
        have g4 : IntKind.i64.wrap ((s.length : Int) - 1) = (s.length : Int) - 1 := IntWalk.i64_in _ (by omega)
        have g5 : (0 : Int) ≤ (s.length : Int) - 1 := by omega
        have g6 : (s.length : Int) - 1 < (s.length : Int) := by omega
        have g7 : ((s.length : Int) - 1).toNat = s.length - 1 := by omega
        have g8 : (1 : Int) ≤ (s.length : Int) := by omega
        have g9 : 1 ≤ s.length := hpos
        obtain ⟨r1, hr1⟩ : ∃ r1 : Bool, r1 = ((((txB s)[0]'(by rw [hsz]; exact hpos)).toNat : Int) == 47) := ⟨_, rfl⟩
        obtain ⟨r2, hr2⟩ : ∃ r2 : Bool, r2 = ((((txB s)[s.length - 1]'(by rw [hsz]; omega)).toNat : Int) == 47) := ⟨_, rfl⟩
        have HR := Lib.hid (And.intro hr1 hr2)
        clear hr1 hr2
        go_region
        rw [← HR.out.1, ← HR.out.2]
        obtain ⟨wp, hwp⟩ : ∃ wp, wp = (((w.alloc (.cells #[.bool false, .bool false, .slice none 0 0] 180)).alloc (.cells #[.int .i64 0] 46)).alloc (.cells #[.bool r1, .bool r2, .slice none 0 0] 180)).drew := ⟨_, rfl⟩
        rw [← hwp]
        obtain ⟨kp, p0, p1, p2, zp⟩ : Keep w wp (fun _ => False) ∧ wp.heap[w.heap.size]? = some (.cells #[.bool false, .bool false, .slice none 0 0] 180 (0, 0)) ∧ wp.heap[w.heap.size + 1]? = some (.cells #[.int .i64 0] 46 (0, 0)) ∧
            wp.heap[w.heap.size + 1 + 1]? = some (.cells #[.bool r1, .bool r2, .slice none 0 0] 180 (0, 0)) ∧ wp.heap.size = w.heap.size + 3 := by
          have k1 := Keep.alloc w (.cells #[.bool false, .bool false, .slice none 0 0] 180) (fun _ => False)
          have a1 := heap_alloc_eq w (.cells #[.bool false, .bool false, .slice none 0 0] 180)
          have z1 : (w.alloc (.cells #[.bool false, .bool false, .slice none 0 0] 180)).heap.size = w.heap.size + 1 := by simp
          generalize w.alloc (.cells #[.bool false, .bool false, .slice none 0 0] 180) = w1 at *
          have k2 := Keep.alloc w1 (.cells #[.int .i64 0] 46) (fun _ => False)
          have a2 := heap_alloc_eq w1 (.cells #[.int .i64 0] 46)
          have z2 : (w1.alloc (.cells #[.int .i64 0] 46)).heap.size = w1.heap.size + 1 := by simp
          generalize w1.alloc (.cells #[.int .i64 0] 46) = w2 at *
          have k3 := Keep.alloc w2 (.cells #[.bool r1, .bool r2, .slice none 0 0] 180) (fun _ => False)
          have a3 := heap_alloc_eq w2 (.cells #[.bool r1, .bool r2, .slice none 0 0] 180)
          have z3 : (w2.alloc (.cells #[.bool r1, .bool r2, .slice none 0 0] 180)).heap.size = w2.heap.size + 1 := by simp
          generalize w2.alloc (.cells #[.bool r1, .bool r2, .slice none 0 0] 180) = w3 at *
          have k4 := Keep.drew w3 (fun _ => False)
          have z4 : w3.drew.heap.size = w3.heap.size := rfl
          rw [← hwp] at k4 z4
          refine ⟨((k1.trans k2 (fun _ q => q.elim)).trans k3 (fun _ q => q.elim)).trans k4 (fun _ q => q.elim), k4.get (k3.get (k2.get a1 (fun q => q)) (fun q => q)) (fun q => q), ?_, ?_, by omega⟩
          · have := k4.get (k3.get a2 (fun q => q)) (fun q => q); rwa [z1] at this
          · have := k4.get a3 (fun q => q); rwa [z2, z1] at this
        have hpc := parts_c wp (txB s)
        clear hwp
        have HP := Lib.hid (And.intro kp (And.intro p0 (And.intro p1 (And.intro p2 zp))))
        clear kp p0 p1 p2 zp hix
        go_wp2_with (
          go_at_call 122
          refine hpc.mono ?_
          rintro e wL ⟨rfl, hwL⟩
          have HWL := Lib.hid hwL
          clear hwL hpc)
        have hwL := HWL.out
        have kL := Keep.alloc wp (.cells #[.string (txB s)] 9) (fun _ => False)
        have aL := heap_alloc_eq wp (.cells #[.string (txB s)] 9)
        have zL : (wp.alloc (.cells #[.string (txB s)] 9)).heap.size = wp.heap.size + 1 := by simp
        rw [← hwL] at kL aL zL
        have hI0 : RdI w r1 r2 [] wL := ⟨HP.out.1.trans kL (fun _ q => q.elim), .slice none 0 0, kL.get HP.out.2.2.2.1 (fun q => q), rows_nil _ _ _, fun b q => by simp [Value.ownBlock] at q, kL.get HP.out.2.1 (fun q => q), kL.get HP.out.2.2.1 (fun q => q), fun x hx => by simp at hx⟩
        have HL := Lib.hid (And.intro aL (show wL.heap.size = w.heap.size + 4 by have := HP.out.2.2.2.2; omega))
        clear hwL HWL kL aL zL
        have hLz := HL.out.2
        refine wp_rangeC (j := 5) (gf := 139) (lb := #[.pointer (some ⟨wp.heap.size, 0, none⟩)]) rfl (enters_of Tryz.func139 (by kernel_rfl) rfl)
          (parts_seq _ s (by omega) wL HL.out.1) (fun b q => .inr (by have q' : b = wL.heap.size + 2 + 1 := q; omega))
          (fun h k => h.trans k)
          (fun A l' o o' hl ho hc hw => ⟨⟨by simp [World.putObj], fun k o2 hB hk ho2 => (World.putObj_heap_other (by omega)).trans hk⟩, fun b h1 h2 => World.putObj_heap_other (by omega)⟩)
          (RdI w r1 r2) (RdX w)
          (by rw [show wL.heap.size + 2 + 1 = w.heap.size + 7 by omega]; exact rdI_abides w r1 r2 _ hLz) (fun c => by rw [show wL.heap.size + 2 + 1 = w.heap.size + 7 by omega]; exact rdX_abides w c _ hLz) hI0
          ?assign ?body ?done ?stop
        case assign =>
          intro l' x U K hK
          gi_wp2
          exact hK
        case body =>
          rintro l' pre x U ⟨kU, v, h1, h2, h3, h4, h5, h6⟩ hsU hpm
          obtain ⟨sa, cp, rfl, hcp⟩ := rows_val2 h2
          have a0 := cell_blk h4 0
          have a1 := cell_blk h4 1
          have a2 := cell_blk h4 2
          have a3 := cell_blk h5 0
          have a4 := cell_blk h1 2
          simp only [List.getElem?_toArray, List.getElem?_cons_zero, List.getElem?_cons_succ] at a0 a1 a2 a3 a4
          have f0 := free_blk h4 0
          have f1 := free_blk h4 1
          have f2 := free_blk h4 2
          have f3 := free_blk h5 0
          have f4 := free_blk h1 2
          have D := Lib.hid (And.intro kU (And.intro h1 (And.intro h2 (And.intro h3 (And.intro h4 (And.intro h5 h6))))))
          have hlt := lt_of_blk h1
          clear kU h1 h2 h3 h4 h5 h6
          by_cases hbig : 255 < x.size
          · have g2 : (255 : Int) < (x.size : Int) := by omega
            have n1 : ¬ w.heap.size = w.heap.size + 1 := by omega
            gi_wp2
            have s1 := heap_setCell_eq (off := 0) (Value.bool false) D.out.2.2.2.2.1
            have s2 := heap_setCell_eq (off := 1) (Value.bool false) s1
            have s3 := heap_setCell_eq (off := 2) (Value.slice none 0 0) s2
            have k3 := ((Keep.setCell U ⟨w.heap.size, 0, none⟩ (.bool false)).trans (Keep.setCell _ ⟨w.heap.size, 1, none⟩ (.bool false)) (fun b q => .inl q)).trans (Keep.setCell _ ⟨w.heap.size, 2, none⟩ (.slice none 0 0)) (fun b q => .inl q)
            have t3 := k3.get D.out.2.2.2.2.2.1 (fun q => by have q' : w.heap.size + 1 = w.heap.size := q; omega)
            have t4 := heap_setCell_eq (off := 0) (Value.int .i64 45) t3
            have k4 := (k3.mono (T := fun b => b = w.heap.size ∨ b = w.heap.size + 1) (fun b q => .inl q)).trans (Keep.setCell _ ⟨w.heap.size + 1, 0, none⟩ (.int .i64 45)) (fun b q => .inl (.inr q))
            have s4 := (Keep.setCell _ ⟨w.heap.size + 1, 0, none⟩ (.int .i64 45)).get s3 (fun q => by have q' : w.heap.size = w.heap.size + 1 := q; omega)
            obtain ⟨kn, kf⟩ := kn_of (n := wL.heap.size + 2) k4 (by omega) (fun b q => by
              rcases q with q | q
              · exact ⟨by omega, _, _, _, by rw [q]; exact D.out.2.2.2.2.1⟩
              · exact ⟨by omega, _, _, _, by rw [q]; exact D.out.2.2.2.2.2.1⟩)
            exact ⟨kf _, kn, rfl, D.out.1.trans k4 (fun b q => .inr (by omega)), s4, t4, x, by simp, hbig⟩
          · have g2 : ¬ (255 : Int) < (x.size : Int) := by omega
            obtain ⟨ti, ti1, ti2, ti3, ti4⟩ := str_info
            have HI := Lib.hid (And.intro ti1 (And.intro ti2 (And.intro ti3 ti4)))
            clear ti1 ti2 ti3 ti4
            generalize hpl : pre.length = pl at *
            have HPL := Lib.hid hpl
            clear hpl
            have hz1 : (Value.string ByteArray.empty).cells.size = 1 := rfl
            gi_wp2_with (
              gi_at_builtin
              refine law_pushIn rfl _ _ _ rfl Tryz.underlying79 HI.out.1 HI.out.2.1 HI.out.2.2.1 HI.out.2.2.2 hz1 D.out.2.2.1 rfl (.string x) rfl rfl rfl (by omega) ?_
              intro sa8 cp8 w8 r1 r2 r3
              have k8 := r2.get D.out.2.1 (fun q => by have := D.out.2.2.2.1 _ q; omega)
              have b4 := cell_blk k8 2
              have g4' := free_blk k8 2
              simp only [List.getElem?_toArray, List.getElem?_cons_zero, List.getElem?_cons_succ] at b4
              have N8 := Lib.hid (And.intro r1 (And.intro r2 (And.intro r3 k8)))
              clear r1 r2 r3 k8)
            have hb8 := heap_setCell_eq (off := 2) (Value.slice sa8 (pl + 1) cp8) N8.out.2.2.2
            have hz8 := N8.out.2.1.size
            have hkU := D.out.1.size
            have own8 : ∀ b, (Value.slice sa8 (pl + 1) cp8).ownBlock = some b → w.heap.size + 12 ≤ b := fun b q => by
              rcases N8.out.2.2.1 b q with e | e
              · exact D.out.2.2.2.1 b e
              · omega
            have kS := Keep.setCell w8 ⟨w.heap.size + 1 + 1, 2, none⟩ (.slice sa8 (pl + 1) cp8)
            have k9 := (N8.out.2.1.mono (T := fun b => b = w.heap.size + 1 + 1 ∨ (Value.slice sa pl cp).ownBlock = some b) (fun b q => .inr q)).trans kS (fun b q => .inl (.inl q))
            obtain ⟨kn, kf⟩ := kn_of (n := w.heap.size + 4 + 2) k9 (by omega) (fun b q => by
              rcases q with q | q
              · exact ⟨by omega, _, _, _, by rw [q]; exact D.out.2.1⟩
              · have h12 := D.out.2.2.2.1 b q
                refine ⟨by omega, ?_⟩
                rcases D.out.2.2.1.2 with ⟨e1, _⟩ | ⟨g, cap, cur, e1, _, hb, _⟩
                · rw [e1] at q; simp [Value.ownBlock] at q
                · rw [e1] at q
                  simp only [Value.ownBlock, Option.some.injEq] at q
                  subst q
                  exact ⟨_, _, _, hb⟩)
            refine ⟨kf _, kn, D.out.1.trans k9 (fun b q => .inr (by rcases q with q | q; omega; have := D.out.2.2.2.1 b q; omega)), .slice sa8 (pl + 1) cp8, hb8, ?_, own8, k9.get D.out.2.2.2.2.1 (fun q => by rcases q with q | q; omega; have := D.out.2.2.2.1 _ q; omega), k9.get D.out.2.2.2.2.2.1 (fun q => by rcases q with q | q; omega; have := D.out.2.2.2.1 _ q; omega), fun y hy => ?_⟩
            · rw [List.length_append, List.length_singleton, HPL.out, List.map_append]
              exact rows_keep N8.out.1 kS (fun b q z => by have := own8 b q; have z' : b = w.heap.size + 1 + 1 := z; omega)
            · rcases List.mem_append.1 hy with q | q
              · exact D.out.2.2.2.2.2.2 y q
              · rw [List.mem_singleton.1 q]; omega
        case done =>
          rintro D xs U hD rfl ⟨kU, v0, h1', h2', h3, h4, h5, h6⟩ hK
          rw [List.length_map] at h2'
          obtain ⟨sa, cp, rfl, hcp⟩ := rows_val2 h2'
          have b0 := cell_blk h1' 0
          have b1 := cell_blk h1' 1
          have b2 := cell_blk h1' 2
          have a0 := cell_blk h4 0
          have a1 := cell_blk h4 1
          have a2 := cell_blk h4 2
          have a3 := cell_blk h5 0
          simp only [List.getElem?_toArray, List.getElem?_cons_zero, List.getElem?_cons_succ] at b0 b1 b2 a0 a1 a2 a3
          have f0 := free_blk h4 0
          have f1 := free_blk h4 1
          have f2 := free_blk h4 2
          have f3 := free_blk h5 0
          have n1 : ¬ w.heap.size = w.heap.size + 1 := by omega
          have s1 := heap_setCell_eq (off := 0) (Value.bool r1) h4
          have s2 := heap_setCell_eq (off := 1) (Value.bool r2) s1
          have s3 := heap_setCell_eq (off := 2) (Value.slice sa (parts s).length cp) s2
          have k3 := ((Keep.setCell U ⟨w.heap.size, 0, none⟩ (.bool r1)).trans (Keep.setCell _ ⟨w.heap.size, 1, none⟩ (.bool r2)) (fun b q => .inl q)).trans (Keep.setCell _ ⟨w.heap.size, 2, none⟩ (.slice sa (parts s).length cp)) (fun b q => .inl q)
          have t3 := k3.get h5 (fun q => by have q' : w.heap.size + 1 = w.heap.size := q; omega)
          have t4 := heap_setCell_eq (off := 0) (Value.int .i64 0) t3
          have k4 := (k3.mono (T := fun b => b = w.heap.size ∨ b = w.heap.size + 1) (fun b q => .inl q)).trans (Keep.setCell _ ⟨w.heap.size + 1, 0, none⟩ (.int .i64 0)) (fun b q => .inl (.inr q))
          have s4 := (Keep.setCell _ ⟨w.heap.size + 1, 0, none⟩ (.int .i64 0)).get s3 (fun q => by have q' : w.heap.size = w.heap.size + 1 := q; omega)
          have hK4 := k4.get hK (fun q => by rcases q with q | q <;> omega)
          have hrd : readP s = ((r1, r2, parts s), 0) := by
            rw [readP_ok h0 h1 (by rw [← hx]; omega) h6, HR.out.1, HR.out.2, at_eq, at_eq]
          have DD := Lib.hid (And.intro (kU.trans k4 (fun b q => .inr (by omega))) (And.intro s4 (And.intro t4 (And.intro hK4 (And.intro (rows_keep h2' k4 (fun b q z => by have := h3 b q; rcases z with z | z <;> omega)) (And.intro hrd h3))))))
          clear kU h1' h2' h3 h4 h5 h6 s1 s2 s3 k3 t3 t4 k4 s4 hK4 hrd hK
          go_wp2
          refine leaves_mark DD.out.2.2.2.1 (fun w' kk => ?_)
          have hkn : ∀ {b : Nat}, b < w.heap.size + 4 → ¬ b = D := fun h q => by omega
          refine ⟨_, read_res (kk.get DD.out.2.1 (hkn (by omega))) (kk.get DD.out.2.2.1 (hkn (by omega))) rfl rfl, ?_⟩
          rw [DD.out.2.2.2.2.2.1]
          refine ⟨_, rfl, ?_, DD.out.1.trans kk (fun b q => .inr (by have q' : b = D := q; omega))⟩
          have h := rows_keep DD.out.2.2.2.2.1 kk (fun b q z => by
            have z' : b = D := z
            rcases DD.out.2.2.2.2.1.2 with ⟨e1, _⟩ | ⟨g, cap, cur, e1, _, hb, _⟩
            · rw [e1] at q; simp [Value.ownBlock] at q
            · rw [e1] at q
              simp only [Value.ownBlock, Option.some.injEq] at q
              subst q
              rw [z', DD.out.2.2.2.1] at hb
              cases hb)
          rw [List.map_map] at h
          exact h
        case stop =>
          rintro D c pre U hD hpre ⟨rfl, kU, h4, h5, x, hx1, hx2⟩ hK
          have hrd : readP s = ((false, false, []), 45) := readP_long h0 h1 (by rw [← hx]; omega) hpre hx1 hx2
          have DD := Lib.hid (And.intro kU (And.intro h4 (And.intro h5 (And.intro hK hrd))))
          clear kU h4 h5 hx1 hx2 hK hrd hpre
          go_wp2
          refine leaves_mark DD.out.2.2.2.1 (fun w' kk => ?_)
          have hkn : ∀ {b : Nat}, b < w.heap.size + 4 → ¬ b = D := fun h q => by omega
          refine ⟨_, read_res (kk.get DD.out.2.1 (hkn (by omega))) (kk.get DD.out.2.2.1 (hkn (by omega))) rfl rfl, ?_⟩
          rw [DD.out.2.2.2.2]
          exact ⟨_, rfl, rows_nil _ _ _, DD.out.1.trans kk (fun b q => .inr (by have q' : b = D := q; omega))⟩
end Go.Proofs.YtoanccechefclaaGreatDoor
namespace Go.Proofs.YtoanccechefclaaGreatDoor
set_option maxRecDepth 100000
open Go Go.RowKit Go.Shelf
attribute [local go_sem] Oper.semAt_some
def writeP (root slash : Bool) (ps : List Bl) : Bl := (if root then [47] else []) ++ (Lib.join ps [47] ++ if slash && !ps.isEmpty then [47] else [])
theorem txB_cons (l : Bl) : (⟨#[47]⟩ : ByteArray) ++ txB l = txB (47 :: l) := by
  apply ByteArray.ext
  simp [txB]
theorem txB_snoc (l : Bl) : txB l ++ (⟨#[47]⟩ : ByteArray) = txB (l ++ [47]) := by
  apply ByteArray.ext
  simp [txB]
theorem txB_append (l m : Bl) : txB l ++ txB m = txB (l ++ m) := by
  apply ByteArray.ext
  simp [txB]
theorem txs_list (ps : List Bl) : (ps.map txB).map (·.data.toList) = ps := by
  rw [List.map_map]
  exact List.map_id'' (fun _ => rfl) ps
theorem joinL_c {sa : Option Addr} {cap : Nat} {ps : List Bl} {w : World} (h : ListIn w (.slice sa ps.length cap) (ps.map fun p => .string (txB p))) (hcap : ps.length ≤ cap) (hn : ps.length ≤ 1000000000) (hl : (Lib.join ps [47]).length ≤ 1000000000) :
    Calls Tryz.prog 153 #[.slice sa ps.length cap, .string ⟨#[47]⟩] w fun e w' => e = .returned (.string (txB (Lib.join ps [47]))) ∧ Below w.heap.size w w' := by
  rcases Nat.eq_zero_or_pos ps.length with e2 | h0
  · have e3 : ps = [] := List.length_eq_zero_iff.1 e2
    subst e3
    refine (Tryz.strings_Join_none sa cap ⟨#[47]⟩ w).mono ?_
    rintro e w' ⟨rfl, rfl⟩
    exact ⟨rfl, Below.refl _ _⟩
  · obtain ⟨g, off, rfl, h4, hc0⟩ := h.some (by rw [List.length_map]; exact h0)
    have hc : ∀ (j : Nat) x, (ps.map txB)[j]? = some x → w.cell? ⟨g, off + j, none⟩ = some (.string x) := fun j x hx => by
      rw [List.getElem?_map, Option.map_eq_some_iff] at hx
      obtain ⟨y, hy, rfl⟩ := hx
      exact hc0 j _ (mapGet (f := fun p => Value.string (txB p)) hy)
    have hj := Tryz.strings_Join g off cap (ps.map txB) ⟨#[47]⟩ w hc h4 (by rw [List.length_map]; omega) (by rw [List.length_map]; exact hcap) (by rw [txs_list]; exact Nat.le_trans hl (by omega))
    rw [txs_list, List.length_map] at hj
    exact hj
set_option maxRecDepth 100000 in
theorem writeL_c {root slash : Bool} {sa : Option Addr} {cap : Nat} {ps : List Bl} {w : World} (h : ListIn w (.slice sa ps.length cap) (ps.map fun p => .string (txB p))) (hcap : ps.length ≤ cap) (hn : ps.length ≤ 1000000000) (hl : (Lib.join ps [47]).length ≤ 1000000000) :
    Calls Tryz.prog 142 #[.agg #[.bool root, .bool slash, .slice sa ps.length cap]] w fun e w' => e = .returned (.string (txB (writeP root slash ps))) ∧ Keep w w' (fun _ => False) := by
  obtain ⟨W, hW⟩ : ∃ W, W = w.alloc (.cells #[.bool root, .bool slash, .slice sa ps.length cap] 180) := ⟨_, rfl⟩
  have k1 := Keep.alloc w (.cells #[.bool root, .bool slash, .slice sa ps.length cap] 180) (fun _ => False)
  have a1 := heap_alloc_eq w (.cells #[.bool root, .bool slash, .slice sa ps.length cap] 180)
  rw [← hW] at k1 a1
  have hj := joinL_c (h.aside k1) hcap hn hl
  rw [hW] at hj
  have hlW := lt_of_blk a1
  obtain ⟨js, hjs⟩ : ∃ js, js = Lib.join ps [47] := ⟨_, rfl⟩
  rw [← hjs] at hj
  have HJ := Lib.hid hjs
  have HW := Lib.hid hW
  have D := Lib.hid (And.intro k1 (And.intro a1 hlW))
  have HR := Lib.hid (show ∀ m : Bl, m = (if root then [47] else []) ++ (js ++ if slash && !ps.isEmpty then [47] else []) → m = writeP root slash ps from fun m hm => by rw [hm, hjs]; rfl)
  generalize hpn : ps.length = pn at *
  have hne : ps.isEmpty = decide (pn = 0) := by rw [← hpn]; cases ps <;> simp
  clear hjs hW k1 a1 hlW h
  have HE := Lib.hid hne
  clear hne hpn
  have go : ∀ w1, Below W.heap.size W w1 → Keep w w1 (fun _ => False) ∧ w1.cell? ⟨w.heap.size, 0, none⟩ = some (.bool root) ∧ w1.cell? ⟨w.heap.size, 1, none⟩ = some (.bool slash) ∧ w1.cell? ⟨w.heap.size, 2, none⟩ = some (.slice sa pn cap) := by
    intro w1 hb
    have k := Keep.of_below hb
    have a := k.get D.out.2.1 (by have := D.out.2.2; omega)
    have hz := D.out.1.size
    refine ⟨D.out.1.trans k (fun b q => .inr (by omega)), ?_, ?_, ?_⟩ <;> rw [cell_blk a] <;> rfl
  have GO := Lib.hid go
  clear go
  have hp0 : pn = 0 ∨ 0 < pn := Nat.eq_zero_or_pos pn
  go_enter Tryz.func142, Tryz.ntmps142
  have g1 : ¬ 9223372036854775807 < 1 + (txB js).size := by rw [txB_size, HJ.out]; omega
  have g2 : ¬ 9223372036854775807 < (txB js).size + 1 := by rw [txB_size, HJ.out]; omega
  have g3 : ¬ 9223372036854775807 < 1 + (txB js).size + 1 := by rw [txB_size, HJ.out]; omega
  cases root <;> cases slash <;> rcases hp0 with h0 | h0
  all_goals
    first | (have g0 : ¬ 0 < pn := by omega) | (have g0 : 0 < pn := by omega)
    clear h0
    go_wp2_with (
      go_at_call 153
      refine hj.mono ?_
      rintro e w1 ⟨rfl, hb⟩
      rw [← HW.out] at hb
      obtain ⟨kw, b0, b1, b2⟩ := GO.out w1 hb
      have KW := Lib.hid kw
      clear kw hb)
    go_ret
    refine ⟨?_, KW.out⟩
    refine congrArg (fun z => Ending.returned (Value.string z)) ?_
    try simp only [txB_cons, txB_snoc]
    refine congrArg txB (HR.out _ ?_)
    rw [HE.out]
    simp
    try omega
end Go.Proofs.YtoanccechefclaaGreatDoor
namespace Go.Proofs.YtoanccechefclaaGreatDoor
open Go Go.RowKit Go.Shelf
attribute [local go_sem] Oper.semAt_some
abbrev txV (p : Bl) : Value := .string (txB p)
def noDot (p : Bl) : Bool := decide (p ≠ [46])
def cleanP (l : Bl) : Bl × Int :=
  if (readP l).2 ≠ 0 then ([], (readP l).2)
  else if (readP l).1.2.2.filter noDot = [] ∧ (readP l).1.1 = false then ([46], 0)
  else (writeP (readP l).1.1 (readP l).1.2.1 ((readP l).1.2.2.filter noDot), 0)
theorem sub_sum {ps qs : List Bl} (h : ps.Sublist qs) : (ps.map List.length).sum + ps.length ≤ (qs.map List.length).sum + qs.length := by
  induction h with
  | slnil => simp
  | cons a _ ih => simp; omega
  | cons_cons a _ ih => simp; omega
theorem join_le (ps : List Bl) : (Lib.join ps [47]).length ≤ (ps.map List.length).sum + ps.length := by
  cases ps with
  | nil => simp [Lib.join_nil]
  | cons x r =>
    rw [Lib.join_length]
    have h : Lib.lens (x :: r) = ((x :: r).map List.length).sum := rfl
    rw [h]
    simp
    omega
theorem parts_sub (l : Bl) : (parts l).Sublist (pieces l) := List.filter_sublist
theorem parts_sum (l : Bl) {ps : List Bl} (h : ps.Sublist (parts l)) : (ps.map List.length).sum + ps.length ≤ l.length + 1 := by
  have h1 := sub_sum (h.trans (parts_sub l))
  have h2 := pieces_sum l
  omega
theorem readP_parts (l : Bl) : (readP l).1.2.2 = [] ∨ ((readP l).1.2.2 = parts l ∧ l.length ≤ 4096) := by
  unfold readP
  repeat' split
  all_goals first | exact .inl rfl | exact .inr ⟨rfl, by omega⟩
theorem readP_sum (l : Bl) {ps : List Bl} (h : ps.Sublist (readP l).1.2.2) : (ps.map List.length).sum + ps.length ≤ 4097 := by
  rcases readP_parts l with e | ⟨e, hl⟩
  · rw [e] at h
    rw [List.sublist_nil.1 h]
    simp
  · rw [e] at h
    have := parts_sum l h
    omega
end Go.Proofs.YtoanccechefclaaGreatDoor
namespace Go.Proofs.YtoanccechefclaaGreatDoor
open Go
theorem ix_iff {l : Bl} {c : UInt8} : 0 ≤ Lib.indexByte l c ↔ c ∈ l := by
  have hge := Lib.indexByte_ge l c
  constructor
  · intro h
    obtain ⟨o, ho⟩ : ∃ o : Nat, Lib.indexByte l c = o := ⟨(Lib.indexByte l c).toNat, by omega⟩
    exact List.mem_of_getElem? (Lib.indexByte_some ho).1
  · intro h
    by_cases hn : Lib.indexByte l c = -1
    · obtain ⟨k, hk⟩ := List.getElem?_of_mem h
      exact absurd hk (Lib.indexByte_none hn k)
    · omega
theorem readP_eq (l : Bl) : readP l = if l = [] then ((false, false, []), 32) else if 4096 < l.length then ((false, false, []), 45) else if 0 ∈ l then ((false, false, []), 39)
    else if ∃ p ∈ parts l, 255 < p.length then ((false, false, []), 45) else ((decide (l.head? = some 47), decide (l.getLast? = some 47), parts l), 0) := by
  unfold readP
  simp only [ix_iff, List.any_eq_true, decide_eq_true_eq]
theorem pieces_mem {l p : Bl} (h : p ∈ pieces l) : (47 : UInt8) ∉ p ∧ ∀ c ∈ p, c ∈ l := by
  induction l generalizing p with
  | nil => simp [pieces] at h; subst h; simp
  | cons c r ih =>
    rw [pieces] at h
    split at h
    · rcases List.mem_cons.1 h with rfl | h
      · simp
      · exact ⟨(ih h).1, fun x hx => List.mem_cons_of_mem _ ((ih h).2 x hx)⟩
    · rename_i hc
      split at h
      · rename_i e; exact absurd e (pieces_ne r)
      · rename_i q qs e
        rcases List.mem_cons.1 h with rfl | h
        · have hq := ih (p := q) (by rw [e]; exact List.mem_cons_self)
          refine ⟨fun hm => ?_, fun x hx => ?_⟩
          · rcases List.mem_cons.1 hm with e2 | hm
            · exact hc e2.symm
            · exact hq.1 hm
          · rcases List.mem_cons.1 hx with rfl | hx
            · exact List.mem_cons_self
            · exact List.mem_cons_of_mem _ (hq.2 x hx)
        · have hq := ih (p := p) (by rw [e]; exact List.mem_cons_of_mem _ h)
          exact ⟨hq.1, fun x hx => List.mem_cons_of_mem _ (hq.2 x hx)⟩
theorem parts_mem {l p : Bl} (h : p ∈ parts l) : p ≠ [] ∧ (47 : UInt8) ∉ p ∧ ∀ c ∈ p, c ∈ l := by
  unfold parts at h
  obtain ⟨h1, h2⟩ := List.mem_filter.1 h
  exact ⟨by simpa using h2, pieces_mem h1⟩
end Go.Proofs.YtoanccechefclaaGreatDoor
namespace Go.Proofs.YtoanccechefclaaGreatDoor
open Go Go.RowKit
theorem Keep.add {w A B : World} (h : Hid (Keep A B (fun _ => False))) (k : Keep w A (fun _ => False)) : Keep w B (fun _ => False) := k.trans h.out (fun _ q => q.elim)
def cutB (n : Nat) (x : ByteArray) : ByteArray := if n < x.size then x.extract 0 n else x
end Go.Proofs.YtoanccechefclaaGreatDoor
