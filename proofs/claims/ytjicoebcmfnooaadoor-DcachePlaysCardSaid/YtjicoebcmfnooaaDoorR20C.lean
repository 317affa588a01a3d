/-
  The document's cache: New, Len, Get, Drop.
-/
import Derived.Test.YtjicoebcmfnooaaDoorR20P
namespace Go.Proofs.YtjicoebcmfnooaaDoor
open Go Go.RowKit
set_option linter.unusedSectionVars false
set_option linter.unusedSimpArgs false
set_option linter.unusedVariables false
set_option maxRecDepth 100000
attribute [local go_sem] Oper.semAt_some

/-- The cache's list is another one now. -/
theorem kref_list {w w' : World} {rb lb : Nat} {S SL SL' : Nat → Prop} {most : Int} {L L' : List Pair} {K : Mem} {v : Value} (h : RefC w rb S most L K) (h1 : w.heap[rb]? = some (.cells #[.pointer (some ⟨lb, 0, none⟩), v] 62 (0, 0)))
    (h2 : w.ownsRow 0 65 4 v K.length (flat ent8 K)) (h3 : ∀ b, v.ownBlock = some b → (S b ∧ ¬ SL b) ∧ b ≠ rb) (h4 : S rb) (h5 : ∀ b, SL b → S b ∧ b ≠ rb) (hL : RefL w' lb SL' most L') (hT : Turn w SL w' SL') :
    ∃ S', RefC w' rb S' most L' K ∧ Turn w S w' S' := by
  have hr := h.lt _ h4
  refine ⟨fun b => S b ∨ SL' b, ⟨⟨lb, v, SL', hT.keep.get h1 (fun q => (h5 _ q).2 rfl), hL, rows_keep h2 hT.keep (fun b q z => (h3 b q).1.2 z), fun b q => ⟨⟨.inl (h3 b q).1.1, fun z => ?_⟩, (h3 b q).2⟩, .inl h4, fun b q => ⟨.inr q, fun e => ?_⟩⟩, fun b q => ?_⟩, ⟨hT.keep.mono fun b q => (h5 b q).1, fun b q => ?_⟩⟩
  · rcases hT.new b z with z | z
    · exact (h3 b q).1.2 z
    · have := h.lt b (h3 b q).1.1; omega
  · rcases hT.new b q with z | z
    · exact (h5 b z).2 e
    · omega
  · rcases q with q | q
    · exact Nat.lt_of_lt_of_le (h.lt b q) hT.keep.size
    · exact hL.lt b q
  · rcases q with q | q
    · exact .inl q
    · rcases hT.new b q with z | z
      · exact .inl (h5 b z).1
      · exact .inr z

def Sm (x : Nm) : Prop := InR x ∧ x.2.size ≤ 9000000000000000000

structure RCAt (w : World) (rb : Nat) (S : Nat → Prop) (most : Int) (A : Mem) : Prop where
  ok : Mem.ok most A
  small : ∀ x ∈ A, Sm x.1
  ex : ∃ K : Mem, RefC w rb S most (lru8 A) K ∧ (K.map Prod.fst).Nodup ∧ ∀ x, aget K x = aget A x

theorem RCAt.keep {w w' : World} {rb : Nat} {S U : Nat → Prop} {most : Int} {A : Mem} (h : RCAt w rb S most A) (k : Keep w w' U) (hU : ∀ b, S b → ¬ U b) : RCAt w' rb S most A := by
  obtain ⟨K, h1, h2, h3⟩ := h.ex
  exact ⟨h.ok, h.small, K, h1.keep k hU, h2, h3⟩
theorem RCAt.aside {w w' : World} {rb : Nat} {S : Nat → Prop} {most : Int} {A : Mem} (h : RCAt w rb S most A) (k : Keep w w' (fun _ => False)) : RCAt w' rb S most A := h.keep k (fun _ _ q => q)
theorem RCAt.all {w : World} {rb : Nat} {S : Nat → Prop} {most : Int} {A : Mem} (h : RCAt w rb S most A) : AllR A := fun y hy => (h.small y hy).1
theorem RCAt.lt {w : World} {rb : Nat} {S : Nat → Prop} {most : Int} {A : Mem} (h : RCAt w rb S most A) : ∀ b, S b → b < w.heap.size := by
  obtain ⟨K, h1, _, _⟩ := h.ex
  exact h1.lt

theorem all_of_get {A K : Mem} (hA : AllR A) (hn : (K.map Prod.fst).Nodup) (h : ∀ x, aget K x = aget A x) : AllR K := by
  intro y hy
  have := (mem_iff_get hn y.1 y.2).1 hy
  rw [h] at this
  exact hA _ (aget_memA this)

theorem len_of_get {A K : Mem} (hA : (A.map Prod.fst).Nodup) (hn : (K.map Prod.fst).Nodup) (h : ∀ x, aget K x = aget A x) : K.length = A.length := (perm_of_get hA hn h).length_eq

theorem krnew_c (w : World) (m : Int) (h1 : 1 ≤ m) (h2 : m ≤ 64) :
    Calls Tryd.prog 15 #[.int .i64 m] w fun r w' => ∃ rb S, r = .returned (.pointer (some ⟨rb, 0, none⟩)) ∧ RCAt w' rb S m [] ∧ Turn w (fun _ => False) w' S := by
  have hn := fun w => rnew_c w m
  go_enter Tryd.func15, Tryd.ntmps15
  go_wp2_with (
    go_at_call 30
    refine (hn _).mono ?_
    rintro e w1 ⟨lb, SL, rfl, hL, hT⟩
    have N := Lib.hid (And.intro hL hT)
    clear hL hT)
  go_ret
  have ka := Keep.alloc w1 (.cells #[.pointer (some ⟨lb, 0, none⟩), .slice none 0 0] 62) (fun _ => False)
  have hz := N.out.2.keep.size
  refine ⟨w1.heap.size, fun b => b = w1.heap.size ∨ SL b, rfl, ⟨Mem.new_ok h1 h2, fun x hx => by simp at hx, [], ⟨⟨lb, .slice none 0 0, SL, heap_alloc_eq _ _, N.out.1.aside ka, rows_nil _ _ _, fun b q => by simp [Value.ownBlock] at q, .inl rfl, fun b q => ⟨.inr q, fun e => ?_⟩⟩, fun b q => ?_⟩, by simp, fun _ => rfl⟩, N.out.2.keep.trans ka (fun _ q => q.elim), fun b q => ?_⟩
  · have := N.out.1.lt b q; omega
  · have e : (w1.alloc (.cells #[.pointer (some ⟨lb, 0, none⟩), .slice none 0 0] 62)).heap.size = w1.heap.size + 1 := by simp
    rw [e]
    rcases q with q | q
    · rw [q]; exact Nat.lt_succ_self _
    · have := N.out.1.lt b q; omega
  · rcases q with q | q
    · rw [q]; exact .inr hz
    · exact N.out.2.new b q

theorem krlen_c {w : World} {rb : Nat} {S : Nat → Prop} {most : Int} {A : Mem} (h : RCAt w rb S most A) :
    Calls Tryd.prog 21 #[.pointer (some ⟨rb, 0, none⟩)] w fun r w' => r = .returned (.int .i64 A.length) ∧ w' = w := by
  obtain ⟨K, hK, hn, hg⟩ := h.ex
  obtain ⟨lb, v, SL, h1, hL, h2, h3, h4, h5⟩ := hK.ex
  obtain ⟨sa, cap, rfl, hc⟩ := rows_val2 h2
  have hl := len_of_get h.ok.nodup hn hg
  rw [hl] at h1 hc
  have c0 : w.cell? ⟨rb, 1, none⟩ = some (.slice sa A.length cap) := by rw [cell_blk h1]; rfl
  clear h h1 h2 h3 h4 h5 hL hn hg hK hl
  go_enter Tryd.func21, Tryd.ntmps21
  go_wp2
  go_ret
  exact ⟨rfl, rfl⟩

set_option maxHeartbeats 4000000 in
theorem krget_c {w : World} {rb : Nat} {S : Nat → Prop} {most : Int} {A : Mem} (h : RCAt w rb S most A) (x : Nm) (hx : Sm x) :
    Calls Tryd.prog 16 #[.pointer (some ⟨rb, 0, none⟩), .int .i64 x.1, .string x.2] w fun r w' => r = .returned (.tuple #[.int .i64 (getA A x).2.1, .int .i64 (getA A x).2.2]) ∧ ∃ S', RCAt w' rb S' most (getA A x).1 ∧ Turn w S w' S' := by
  have hk := rkey_c x hx.1 hx.2 w
  have H := Lib.hid h
  have HX := Lib.hid hx
  obtain ⟨K0, hK0, hn0, hg0⟩ := h.ex
  have hal := all_of_get h.all hn0 hg0
  have hlen := len_of_get h.ok.nodup hn0 hg0
  have hl64 : K0.length ≤ 64 := by have := h.ok.len; have := h.ok.most1; omega
  have HK := Lib.hid (And.intro hK0 (And.intro hn0 (And.intro hg0 (And.intro hal hl64))))
  unfold getA
  cases hg : aget A x with
  | none =>
    have hidx := idx8_none hal hx.1 (by rw [hg0, hg])
    dsimp only
    clear h hx hK0 hn0 hg0 hal hlen hl64 hg
    go_enter Tryd.func16, Tryd.ntmps16
    go_wp2_with (first
      | (go_at_call 31
         refine hk.mono ?_
         rintro e w1 ⟨rfl, hk1⟩
         have hf := kfind_c (HK.out.1.aside hk1) (by have := HK.out.2.2.2.2; omega) (k8 x)
         rw [hidx] at hf
         have K1 := Lib.hid hk1
         clear hk hk1)
      | (go_at_call 32
         refine hf.mono ?_
         rintro e w2 ⟨rfl, hw2⟩
         subst hw2
         clear hf))
    go_ret2
    exact ⟨rfl, S, H.out.aside K1.out, K1.out.mono (fun _ q => q.elim), fun b q => .inl q⟩
  | some v =>
    obtain ⟨k, hidx, hkx, hkl, -⟩ := idx8_some hal hn0 hx.1 (by rw [hg0, hg])
    have hus := use8_fits (most := most) h.all hx.1 (v := v) (by rw [touch_len (by rw [hg]; rfl)]; exact h.ok.len)
    have HG := Lib.hid hg
    dsimp only
    by_cases hv : v ≤ 0
    all_goals
      (first | rw [if_pos hv] | rw [if_neg hv])
      clear h hx hK0 hn0 hg0 hal hlen hg
      have hk0 : ¬ (k : Int) < 0 := by omega
      have HI := Lib.hid (And.intro hkx hkl)
      clear hkx
      go_enter Tryd.func16, Tryd.ntmps16
      go_upto_region 2 with (
        go_at_call 31
        refine hk.mono ?_
        rintro e w1 ⟨rfl, hk1⟩
        have hf := kfind_c (HK.out.1.aside hk1) (by have := HK.out.2.2.2.2; omega) (k8 x)
        rw [hidx] at hf
        have K1 := Lib.hid hk1
        clear hk hk1)
      go_upto_region 5 with (
        go_at_call 32
        refine hf.mono ?_
        rintro e w2 ⟨rfl, hw2⟩
        subst hw2
        clear hf)
      obtain ⟨lb, sv, SL, h1, hL, h2, h3, h4, h5⟩ := (HK.out.1.aside K1.out).ex
      have c0 : w2.cell? ⟨rb, 0, none⟩ = some (.pointer (some ⟨lb, 0, none⟩)) := by rw [cell_blk h1]; rfl
      have hu := ruse_c hL (by rw [lru8_len]; have := H.out.ok.len; have := H.out.ok.most1; omega) (lru8_nodup H.out.all H.out.ok.nodup) (k8 x)
      rw [hus] at hu
      have HO := Lib.hid (And.intro h1 (And.intro h2 (And.intro h3 (And.intro h4 h5))))
      clear h1 h2 h3 h4 h5 hL hus
      first
        | (go_upto_region 8 with (
            go_at_call 33
            refine hu.mono ?_
            rintro e w3 ⟨rfl, S3, hL3, hT3⟩
            obtain ⟨S4, hC4, hT4⟩ := kref_list (HK.out.1.aside K1.out) HO.out.1 HO.out.2.1 HO.out.2.2.1 HO.out.2.2.2.1 HO.out.2.2.2.2 hL3 hT3
            obtain ⟨lb3, sv3, SL3, x1, -, x2, -, -, -⟩ := hC4.ex
            obtain ⟨sa, cap, rfl, hc⟩ := rows_val2 x2
            obtain ⟨g, rfl, -, -, -⟩ := rows_some x2 (by omega)
            have d1 : w3.cell? ⟨rb, 1, none⟩ = some (.slice (some ⟨g, 0, none⟩) K0.length cap) := by rw [cell_blk x1]; rfl
            have d2 : w3.cell? ⟨g, k * 4 + 3, none⟩ = some (.int .i64 v) := (rows_cell x2 (by rw [flat_get ent8 4 ent8_len HI.out.1 (by omega)]; rfl)).1
            have N := Lib.hid (And.intro hC4 hT4)
            clear hu hL3 hT3 hC4 hT4 x1 x2)
           go_quiet (fail)
           have N := Lib.hid (show RefC (w3.drewN nq) rb S4 most (lru8 (touch A x v)) K0 ∧ Turn w2 S (w3.drewN nq) S4 from ⟨N.out.1.aside (drewN_keep w3 (fun _ => False) nq), N.out.2.keep.trans (drewN_keep w3 (fun _ => False) nq) (fun _ q => q.elim), N.out.2.new⟩)
           go_wp2)
        | (go_wp2_with (
            go_at_call 33
            refine hu.mono ?_
            rintro e w3 ⟨rfl, S3, hL3, hT3⟩
            obtain ⟨S4, hC4, hT4⟩ := kref_list (HK.out.1.aside K1.out) HO.out.1 HO.out.2.1 HO.out.2.2.1 HO.out.2.2.2.1 HO.out.2.2.2.2 hL3 hT3
            obtain ⟨lb3, sv3, SL3, x1, -, x2, -, -, -⟩ := hC4.ex
            obtain ⟨sa, cap, rfl, hc⟩ := rows_val2 x2
            obtain ⟨g, rfl, -, -, -⟩ := rows_some x2 (by omega)
            have d1 : w3.cell? ⟨rb, 1, none⟩ = some (.slice (some ⟨g, 0, none⟩) K0.length cap) := by rw [cell_blk x1]; rfl
            have d2 : w3.cell? ⟨g, k * 4 + 3, none⟩ = some (.int .i64 v) := (rows_cell x2 (by rw [flat_get ent8 4 ent8_len HI.out.1 (by omega)]; rfl)).1
            have N := Lib.hid (And.intro hC4 hT4)
            clear hu hL3 hT3 hC4 hT4 x1 x2))
      go_ret2
      refine ⟨rfl, S4, ⟨touch_ok H.out.ok (by rw [HG.out]; rfl) v, ?_, K0, N.out.1, HK.out.2.1, fun z => ?_⟩, (K1.out.mono (fun _ q => q.elim)).trans N.out.2.keep (fun b q => .inl q), fun b q => (N.out.2.new b q).imp id (fun q => Nat.le_trans K1.out.size q)⟩
      · intro y hy
        unfold touch at hy
        rcases List.mem_append.1 hy with hy | hy
        · exact H.out.small y ((adelA_sub A x).subset hy)
        · rw [List.mem_singleton.1 hy]; exact HX.out
      · rw [HK.out.2.2.1, aget_touch H.out.ok.nodup]
        split
        · rename_i e; rw [← e, HG.out]
        · rfl

theorem RCAt.sm_touch {w : World} {rb : Nat} {S : Nat → Prop} {most : Int} {A : Mem} (h : RCAt w rb S most A) {x : Nm} (hx : Sm x) (v : Int) : ∀ y ∈ touch A x v, Sm y.1 := by
  intro y hy
  unfold touch at hy
  rcases List.mem_append.1 hy with hy | hy
  · exact h.small y ((adelA_sub A x).subset hy)
  · rw [List.mem_singleton.1 hy]; exact hx

set_option maxHeartbeats 4000000 in
theorem krdrop_c {w : World} {rb : Nat} {S : Nat → Prop} {most : Int} {A : Mem} (h : RCAt w rb S most A) (x : Nm) (hx : Sm x) :
    Calls Tryd.prog 18 #[.pointer (some ⟨rb, 0, none⟩), .int .i64 x.1, .string x.2] w fun r w' => r = .returned (.bool (dropA A x).2) ∧ ∃ S', RCAt w' rb S' most (dropA A x).1 ∧ Turn w S w' S' := by
  have hk := rkey_c x hx.1 hx.2 w
  have H := Lib.hid h
  have HX := Lib.hid hx
  obtain ⟨K0, hK0, hn0, hg0⟩ := h.ex
  have hal := all_of_get h.all hn0 hg0
  have hlen := len_of_get h.ok.nodup hn0 hg0
  have hl64 : K0.length ≤ 64 := by have := h.ok.len; have := h.ok.most1; omega
  have HK := Lib.hid (And.intro hK0 (And.intro hn0 (And.intro hg0 (And.intro hal hl64))))
  unfold dropA
  dsimp only
  cases hg : aget A x with
  | none =>
    have hidx := idx8_none hal hx.1 (by rw [hg0, hg])
    rw [adel_noneA hg]
    clear h hx hK0 hn0 hg0 hal hlen hl64 hg
    go_enter Tryd.func18, Tryd.ntmps18
    go_wp2_with (first
      | (go_at_call 31
         refine hk.mono ?_
         rintro e w1 ⟨rfl, hk1⟩
         have hf := kfind_c (HK.out.1.aside hk1) (by have := HK.out.2.2.2.2; omega) (k8 x)
         rw [hidx] at hf
         have K1 := Lib.hid hk1
         clear hk hk1)
      | (go_at_call 32
         refine hf.mono ?_
         rintro e w2 ⟨rfl, hw2⟩
         subst hw2
         clear hf))
    go_ret
    exact ⟨rfl, S, H.out.aside K1.out, K1.out.mono (fun _ q => q.elim), fun b q => .inl q⟩
  | some v =>
    obtain ⟨k, hidx, hkx, hkl, hke⟩ := idx8_some hal hn0 hx.1 (by rw [hg0, hg])
    have had : adel (lru8 A) (k8 x) = lru8 (adel A x) := adel8 A h.all hx.1
    have hsm : (aget (lru8 A) (k8 x)).isSome = true := by rw [lru8_get h.all hx.1, hg]; rfl
    have HG := Lib.hid hg
    have HD := Lib.hid (And.intro had (And.intro hsm (And.intro hidx hke)))
    have hk0 : ¬ (k : Int) < 0 := by omega
    have HI := Lib.hid (And.intro hkx hkl)
    clear h hx hK0 hn0 hg0 hal hlen hg hkx had hsm hke
    go_enter Tryd.func18, Tryd.ntmps18
    go_upto_region 2 with (
      go_at_call 31
      refine hk.mono ?_
      rintro e w1 ⟨rfl, hk1⟩
      have hf := kfind_c (HK.out.1.aside hk1) (by have := HK.out.2.2.2.2; omega) (k8 x)
      rw [hidx] at hf
      have K1 := Lib.hid hk1
      clear hk hk1)
    go_upto_region 4 with (
      go_at_call 32
      refine hf.mono ?_
      rintro e w2 ⟨rfl, hw2⟩
      subst hw2
      clear hf)
    obtain ⟨lb, sv, SL, h1, hL, h2, h3, h4, h5⟩ := (HK.out.1.aside K1.out).ex
    have c0 : w2.cell? ⟨rb, 0, none⟩ = some (.pointer (some ⟨lb, 0, none⟩)) := by rw [cell_blk h1]; rfl
    have hu := rdrop_c hL (by rw [lru8_len]; have := H.out.ok.len; have := H.out.ok.most1; omega) (k8 x)
    rw [HD.out.1, HD.out.2.1] at hu
    have HO := Lib.hid (And.intro h1 (And.intro h2 (And.intro h3 (And.intro h4 h5))))
    clear h1 h2 h3 h4 h5 hL
    go_wp2_with (first
      | (go_at_call 35
         refine hu.mono ?_
         rintro e w3 ⟨rfl, S3, hL3, hT3⟩
         obtain ⟨S4, hC4, hT4⟩ := kref_list (HK.out.1.aside K1.out) HO.out.1 HO.out.2.1 HO.out.2.2.1 HO.out.2.2.2.1 HO.out.2.2.2.2 hL3 hT3
         have ho := kout_c hC4 (by omega) HI.out.1 (k8 x) HD.out.2.2.1
         rw [HD.out.2.2.2] at ho
         have N := Lib.hid hT4
         clear hu hL3 hT3 hC4 hT4)
      | (go_at_call 34
         refine ho.mono ?_
         rintro e w5 ⟨rfl, S5, hC5, hT5⟩
         have N5 := Lib.hid (And.intro hC5 (N.out.trans hT5))
         clear ho hC5 hT5))
    go_ret
    refine ⟨rfl, S5, ⟨H.out.ok.drop x, fun y hy => H.out.small y ((adelA_sub A x).subset hy), _, N5.out.1, HK.out.2.1.sublist ((adelA_sub _ _).map _), fun z => ?_⟩, (K1.out.mono (fun _ q => q.elim)).trans N5.out.2.keep (fun b q => .inl q), fun b q => (N5.out.2.new b q).imp id (fun q => Nat.le_trans K1.out.size q)⟩
    show aget (adel K0 x) z = aget (adel A x) z
    rw [aget_adelA HK.out.2.1, aget_adelA H.out.ok.nodup, HK.out.2.2.1]

end Go.Proofs.YtjicoebcmfnooaaDoor
