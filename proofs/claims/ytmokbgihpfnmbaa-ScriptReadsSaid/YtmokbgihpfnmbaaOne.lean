/-
  The item with which bytes begin (script.one).
-/
import Derived.Test.YtmokbgihpfnmbaaItems0
import Derived.Test.YtmokbgihpfnmbaaODec
namespace Go.Proofs.Ytmokbgihpfnmbaa
open Go Go.RowKit
set_option linter.unusedSectionVars false
set_option linter.unusedSimpArgs false
set_option linter.unusedVariables false

theorem one_end {W : World} {rb : Nat} {i : ItemV} {dv : Value} {n : Value} {T : Array Value} {R : Ending → World → Prop} (zf : W.heap[rb]? = some (.cells (itemC i dv).toArray 39 (0, 0)))
    (h2 : T.getD 2 undef = .pointer (some ⟨rb, 0, none⟩)) (h3 : T.getD 3 undef = n) (hR : R (.returned (.tuple #[itemA i dv, n])) W) : bodyPost Try.prog Try.f35 R .ret { tmps := T, defers := [] } W := by
  refine bodyPost_ret (v := .tuple #[itemA i dv, n]) ?_ rfl hR
  unfold itemC callC at zf
  have y0 : W.cell? ⟨rb, 0, none⟩ = some (.int .i64 i.kind) := by rw [cell_blk zf]; rfl
  have y1 : W.cell? ⟨rb, 1, none⟩ = some (.int .i64 i.thread) := by rw [cell_blk zf]; rfl
  have y2 : W.cell? ⟨rb, 2, none⟩ = some (.int .i64 i.n) := by rw [cell_blk zf]; rfl
  have y3 : W.cell? ⟨rb, 3, none⟩ = some (.int .i64 i.call.op) := by rw [cell_blk zf]; rfl
  have y4 : W.cell? ⟨rb, 4, none⟩ = some (.string i.call.path) := by rw [cell_blk zf]; rfl
  have y5 : W.cell? ⟨rb, 5, none⟩ = some (.string i.call.to) := by rw [cell_blk zf]; rfl
  have y6 : W.cell? ⟨rb, 6, none⟩ = some (.int .i64 i.call.fd) := by rw [cell_blk zf]; rfl
  have y7 : W.cell? ⟨rb, 7, none⟩ = some (.int .i64 i.call.flags) := by rw [cell_blk zf]; rfl
  have y8 : W.cell? ⟨rb, 8, none⟩ = some (.int .i64 i.call.mode) := by rw [cell_blk zf]; rfl
  have y9 : W.cell? ⟨rb, 9, none⟩ = some (.int .i64 i.call.n) := by rw [cell_blk zf]; rfl
  have y10 : W.cell? ⟨rb, 10, none⟩ = some (.int .i64 i.call.m) := by rw [cell_blk zf]; rfl
  have y11 : W.cell? ⟨rb, 11, none⟩ = some dv := by rw [cell_blk zf]; rfl
  have h2' : T[2]?.getD undef = .pointer (some ⟨rb, 0, none⟩) := by simpa using h2
  have h3' : T[3]?.getD undef = n := by simpa using h3
  simp [results, Try.results35, go_sem, h2', h3', y0, y1, y2, y3, y4, y5, y6, y7, y8, y9, y10, y11]
  try rfl

/-- What one answers. -/
def OneR (w w' : World) (b : Bs) (r : Ending) : Prop :=
  ∃ a cap, r = .returned (.tuple #[itemA (oneI b).1 (.slice a (oneI b).1.call.data.length cap), .int .i64 (oneI b).2]) ∧ BSl w' (.slice a (oneI b).1.call.data.length cap) (oneI b).1.call.data ∧ Keep w w' (fun _ => False) ∧ ∀ x, (Value.slice a (oneI b).1.call.data.length cap).ownBlock = some x → w.heap.size ≤ x

theorem oneR_none {w W : World} {b : Bs} {n : Nat} (h : oneI b = (ItemV.none, n)) (k : Keep w W (fun _ => False)) : OneR w W b (.returned (.tuple #[itemA ItemV.none (.slice none 0 0), .int .i64 n])) := by
  unfold OneR
  rw [h]
  exact ⟨none, 0, rfl, BSl.nil _, k, fun x q => by simp [Value.ownBlock] at q⟩

theorem one_out {x : UInt8} {r : Bs} (h : x.toNat < 1 ∨ 3 < x.toNat) : oneI (x :: r) = (ItemV.none, 1) := by
  unfold oneI; simp only [List.getD_cons_zero]; rw [if_pos h]
theorem one_short {x : UInt8} {r : Bs} (h1 : ¬ x.toNat < 1) (h2 : ¬ 3 < x.toNat) (h : r.length < 1) : oneI (x :: r) = (ItemV.none, 0) := by
  unfold oneI; simp only [List.getD_cons_zero, List.length_cons]; rw [if_neg (by omega)]; split
  · rw [if_pos (by omega)]
  · rw [if_pos (by omega)]
theorem one_short3 {x : UInt8} {r : Bs} (h1 : ¬ x.toNat < 1) (h2 : ¬ 3 < x.toNat) (h3 : x.toNat ≠ 1) (h : r.length < 2) : oneI (x :: r) = (ItemV.none, 0) := by
  unfold oneI; simp only [List.getD_cons_zero, List.length_cons]; rw [if_neg (by omega), if_pos h3, if_pos (by omega)]
theorem one_step {x : UInt8} {r : Bs} (h1 : ¬ x.toNat < 1) (h2 : ¬ 3 < x.toNat) (h3 : x.toNat ≠ 1) (h : ¬ r.length < 2) : oneI (x :: r) = (⟨x.toNat, 0, val2 r, CallV.none⟩, 3) := by
  unfold oneI; simp only [List.getD_cons_zero, List.length_cons, List.drop_succ_cons, List.drop_zero]; rw [if_neg (by omega), if_pos h3, if_neg (by omega)]
theorem one_call {x : UInt8} {r : Bs} (h1 : x.toNat = 1) (h : ¬ r.length < 1) {c : CallV} {n : Nat} {e : Int} (hd : decC (r.drop 1) = (c, n, e)) : oneI (x :: r) = if e = 0 then (⟨1, (r.getD 0 0).toNat, 0, c⟩, 2 + n) else (ItemV.none, 0) := by
  unfold oneI; simp only [List.getD_cons_zero, List.getD_cons_succ, List.length_cons, List.drop_succ_cons, h1]; rw [if_neg (by omega), if_neg (by omega), if_neg (by omega), hd]; rfl

set_option maxHeartbeats 4000000 in
theorem one1_c {w : World} {v : Value} {x : UInt8} {r : Bs} (hb : BSl w v (x :: r)) (g4 : x.toNat = 1) (g3 : ¬ r.length < 1) :
    Calls Try.prog 35 #[v] w fun r_1 w' => OneR w w' (x :: r) r_1 := by
  have h0 : 0 < (x :: r).length := by simp
  obtain ⟨a0, cap0, rfl, hlc, hcm⟩ := hb.val
  obtain ⟨blk, off, rfl, hbk, hf⟩ := hb.some h0
  have c0 := hf 0 x rfl
  rw [Nat.add_zero] at c0
  unfold u8V at c0
  have hx := byte_lt x
  obtain ⟨len, hlen⟩ : ∃ len, len = (x :: r).length := ⟨_, rfl⟩
  have hrl : r.length + 1 = len := by rw [hlen]; rfl
  rw [← hlen] at hb hlc h0 ⊢
  have HL := Lib.hid hlen
  unfold maxLen at hcm
  have HB := Lib.hid (And.intro hb hf)
  clear hlen
  have hz : Hid (∀ o : Array Value, w.heap[w.heap.size]? = none) := Lib.hid (fun _ => by simp)
  clear hb hf
  have hxw : IntKind.i64.wrap (x.toNat : Int) = (x.toNat : Int) := IntWalk.i64_in _ (by omega)
  have g1' : ¬ (x.toNat : Int) < 1 := by omega
  have g2' : ¬ 3 < (x.toNat : Int) := by omega
  have g3' : ¬ (len : Int) < 2 := by omega
  have g4' : (x.toNat : Int) = 1 := by omega
  obtain ⟨y, s, hys⟩ : ∃ y s, r = y :: s := by
    cases r with
    | nil => simp at g3
    | cons y s => exact ⟨y, s, rfl⟩
  obtain ⟨c, n, e, hd⟩ : ∃ c n e, decC s = (c, n, e) := ⟨_, _, _, rfl⟩
  have hO := one_call (x := x) (r := r) g4 g3 (c := c) (n := n) (e := e) (by rw [hys]; exact hd)
  have hy0 : (r.getD 0 0).toNat = y.toNat := by rw [hys]; rfl
  rw [hy0] at hO
  have c1 := HB.out.2 1 y (by rw [hys]; rfl)
  unfold u8V at c1
  have hy := byte_lt y
  have hn : n ≤ 9223372036854775807 := by
    have := decC_le hd
    have : r.length = s.length + 1 := by rw [hys]; rfl
    omega
  have hnw : IntKind.i64.wrap ((n : Int) + 2) = (n : Int) + 2 := by
    have := decC_le hd
    have : r.length = s.length + 1 := by rw [hys]; rfl
    exact IntWalk.i64_in _ (by omega)
  have hnw2 : IntKind.i64.wrap (2 + (n : Int)) = 2 + (n : Int) := by rw [Int.add_comm]; rw [hnw]
  have hyw : IntKind.i64.wrap (y.toNat : Int) = (y.toNat : Int) := IntWalk.i64_in _ (by omega)
  have g6 : (1 : Int) < (len : Int) := by omega
  have g7 : (2 : Int) ≤ (len : Int) := by omega
  have g8 : (2 : Int) ≤ (cap0 : Int) := by omega
  have g9 : (len : Int) ≤ (cap0 : Int) := by omega
  have HO := Lib.hid hO
  have hdrop : (x :: r).drop 2 = s := by rw [hys]; rfl
  have hdec : ∀ (o : Obj) (off2 : Nat), off2 = off + 2 ∨ cap0 = 2 → Calls Try.prog 42 #[.slice (some ⟨blk, off2, none⟩) (len - 2) (cap0 - 2)] (w.alloc o) fun r w' => ∃ a cap, r = .returned (.tuple #[callA c (.slice a c.data.length cap), .int .i64 n, .int .i64 e]) ∧ BSl w' (.slice a c.data.length cap) c.data ∧ Keep (w.alloc o) w' (fun _ => False) ∧ ∀ x, (Value.slice a c.data.length cap).ownBlock = some x → (w.alloc o).heap.size ≤ x := fun o off2 h => by
    have hb2 := (HB.out.1.aside (Keep.alloc w o (fun _ => False))).tail (i := 2) (by rw [← HL.out]; omega) (off' := off2) (h.imp id (fun q => by rw [← HL.out]; omega))
    rw [hdrop] at hb2
    have := odec_c hb2
    rw [hd] at this
    exact this
  clear hO hd hys hrl hdrop hy0
  generalize y.toNat = Y at *
  have hcut : ∃ off2, (off2 = off + 2 ∨ cap0 = 2) ∧ True := ⟨off + 2, .inl rfl, trivial⟩
  clear hcut
  unfold callA at hdec
  have htail : ∀ (w2 : World) (a2 : Option Addr) (cap2 : Nat), BSl w2 (.slice a2 c.data.length cap2) c.data → Keep w w2 (fun _ => False) → w2.heap[w.heap.size]? = some (.cells #[.int .i64 0, .int .i64 0, .int .i64 0, .int .i64 0, .string { data := #[] }, .string { data := #[] }, .int .i64 0, .int .i64 0, .int .i64 0, .int .i64 0, .int .i64 0, .slice none 0 0] 39 (0, 0)) → (∀ z, (Value.slice a2 c.data.length cap2).ownBlock = some z → w.heap.size < z) →
      BSl w2 (.slice a2 c.data.length cap2) c.data := fun _ _ _ h _ _ _ => h
  clear htail
  by_cases hcap : cap0 = 2
  · have hcap' : ¬ (2 : Int) < (cap0 : Int) := by omega
    have hdec2 := fun o => hdec o off (.inr hcap)
    have hl2 : len = 2 := by omega
    rw [hcap, hl2] at hdec2
    simp only [Nat.sub_self] at hdec2
    subst hcap
    clear hdec hl2
    go_enter Try.func35, Try.ntmps35
    go_upto_if 48 with (
      go_at_call 42
      refine (hdec2 _).mono ?_
      rintro e1 w2 ⟨a2, cap2, rfl, h1, h2, h3⟩)
    obtain ⟨w3, hw3⟩ : ∃ w3, w3 = w2.alloc (.cells #[.int .i64 c.op, .string c.path, .string c.to, .int .i64 c.fd, .int .i64 c.flags, .int .i64 c.mode, .int .i64 c.n, .int .i64 c.m, .slice a2 c.data.length cap2] 37) := ⟨_, rfl⟩
    have ka : Keep w (w.alloc (.cells #[.int .i64 0, .int .i64 0, .int .i64 0, .int .i64 0, .string { data := #[] }, .string { data := #[] }, .int .i64 0, .int .i64 0, .int .i64 0, .int .i64 0, .int .i64 0, .slice none 0 0] 39)) (fun _ => False) := Keep.alloc _ _ _
    have kb : Keep w2 w3 (fun _ => False) := by rw [hw3]; exact Keep.alloc _ _ _
    have kc := h2.trans kb (fun _ q => q.elim)
    have kw := ka.trans kc (fun _ q => q.elim)
    have z1 : w3.heap[w.heap.size]? = some (.cells #[.int .i64 0, .int .i64 0, .int .i64 0, .int .i64 0, .string { data := #[] }, .string { data := #[] }, .int .i64 0, .int .i64 0, .int .i64 0, .int .i64 0, .int .i64 0, .slice none 0 0] 39 (0, 0)) := kc.get (heap_alloc_eq w _) (fun q => q)
    have gc : w3.heap[w2.heap.size]? = some (.cells #[.int .i64 c.op, .string c.path, .string c.to, .int .i64 c.fd, .int .i64 c.flags, .int .i64 c.mode, .int .i64 c.n, .int .i64 c.m, .slice a2 c.data.length cap2] 37 (0, 0)) := by rw [hw3]; exact heap_alloc_eq _ _
    have m1 := kw.cell c1 (fun q => q)
    have h3' : ∀ z, (Value.slice a2 c.data.length cap2).ownBlock = some z → w.heap.size < z := fun z q => by
      have := h3 z q
      rw [World.size_alloc] at this
      omega
    have hfz : ∀ i, w3.frozen? ⟨w.heap.size, i, none⟩ = false := fun i => free_blk z1 i
    have v0 := cell_blk z1 0
    have v1 := cell_blk z1 1
    have v2 := cell_blk z1 2
    have v3 := cell_blk z1 3
    have v4 := cell_blk z1 4
    have v5 := cell_blk z1 5
    have v6 := cell_blk z1 6
    have v7 := cell_blk z1 7
    have v8 := cell_blk z1 8
    have v9 := cell_blk z1 9
    have v10 := cell_blk z1 10
    have v11 := cell_blk z1 11
    simp only [List.getElem?_toArray, List.getElem?_cons_zero, List.getElem?_cons_succ] at v0 v1 v2 v3 v4 v5 v6 v7 v8 v9 v10 v11
    have u0 := cell_blk gc 0
    have u1 := cell_blk gc 1
    have u2 := cell_blk gc 2
    have u3 := cell_blk gc 3
    have u4 := cell_blk gc 4
    have u5 := cell_blk gc 5
    have u6 := cell_blk gc 6
    have u7 := cell_blk gc 7
    have u8 := cell_blk gc 8
    simp only [List.getElem?_toArray, List.getElem?_cons_zero, List.getElem?_cons_succ] at u0 u1 u2 u3 u4 u5 u6 u7 u8
    rw [← hw3]
    have KW := Lib.hid (And.intro (And.intro kw z1) (And.intro (h1.aside kb) h3'))
    clear hw3 ka kb kc kw z1 gc h1 h2 h3 h3' hdec2 c0 c1
    by_cases he : e = 0
    · subst he
      have HO1 := Lib.hid (show oneI (x :: r) = (⟨1, (Y : Int), 0, c⟩, 2 + n) from by simpa using HO.out)
      go_wp2
      go_region_law (fail)
      all_goals go_wp2
      all_goals (
        obtain ⟨wf, hwf⟩ : ∃ wf, wf = (((((((((((w3.setCell ⟨w.heap.size, 0, none⟩ (.int .i64 1)).setCell ⟨w.heap.size, 1, none⟩ (.int .i64 (Y : Int))).setCell ⟨w.heap.size, 2, none⟩ (.int .i64 0)).setCell ⟨w.heap.size, 3, none⟩ (.int .i64 c.op)).setCell ⟨w.heap.size, 4, none⟩ (.string c.path)).setCell ⟨w.heap.size, 5, none⟩ (.string c.to)).setCell ⟨w.heap.size, 6, none⟩ (.int .i64 c.fd)).setCell ⟨w.heap.size, 7, none⟩ (.int .i64 c.flags)).setCell ⟨w.heap.size, 8, none⟩ (.int .i64 c.mode)).setCell ⟨w.heap.size, 9, none⟩ (.int .i64 c.n)).setCell ⟨w.heap.size, 10, none⟩ (.int .i64 c.m)).setCell ⟨w.heap.size, 11, none⟩ (.slice a2 c.data.length cap2) := ⟨_, rfl⟩
        obtain ⟨zf, kf⟩ := set12 KW.out.1.2 (.int .i64 1) (.int .i64 (Y : Int)) (.int .i64 0) (.int .i64 c.op) (.string c.path) (.string c.to) (.int .i64 c.fd) (.int .i64 c.flags) (.int .i64 c.mode) (.int .i64 c.n) (.int .i64 c.m) (.slice a2 c.data.length cap2)
        rw [← hwf] at zf kf ⊢
        have kf := kf.trans (Keep.drew wf (fun _ => False)) (fun _ q => q.elim)
        refine one_end (W := wf.drew) (i := ⟨1, (Y : Int), 0, c⟩) (dv := .slice a2 c.data.length cap2) zf rfl rfl ?_
        unfold OneR
        rw [HO1.out]
        refine ⟨a2, cap2, by simp only [Int.natCast_add, Int.cast_ofNat_Int]; rfl, KW.out.2.1.keep kf (fun z q e => by have := KW.out.2.2 z q; have e' : z = w.heap.size := e; omega), KW.out.1.1.trans kf (fun z q => .inr (by have q' : z = w.heap.size := q; omega)), fun z q => Nat.le_of_lt (KW.out.2.2 z q)⟩)
    · have g0 : (e != 0) = true := by simpa using he
      have HN := Lib.hid he
      clear he
      go_wp2
      obtain ⟨wf, hwf⟩ : ∃ wf, wf = (((((((((((w3.setCell ⟨w.heap.size, 0, none⟩ (.int .i64 0)).setCell ⟨w.heap.size, 1, none⟩ (.int .i64 0)).setCell ⟨w.heap.size, 2, none⟩ (.int .i64 0)).setCell ⟨w.heap.size, 3, none⟩ (.int .i64 0)).setCell ⟨w.heap.size, 4, none⟩ (.string { data := #[] })).setCell ⟨w.heap.size, 5, none⟩ (.string { data := #[] })).setCell ⟨w.heap.size, 6, none⟩ (.int .i64 0)).setCell ⟨w.heap.size, 7, none⟩ (.int .i64 0)).setCell ⟨w.heap.size, 8, none⟩ (.int .i64 0)).setCell ⟨w.heap.size, 9, none⟩ (.int .i64 0)).setCell ⟨w.heap.size, 10, none⟩ (.int .i64 0)).setCell ⟨w.heap.size, 11, none⟩ (.slice none 0 0) := ⟨_, rfl⟩
      obtain ⟨zf, kf⟩ := set12 KW.out.1.2 (.int .i64 0) (.int .i64 0) (.int .i64 0) (.int .i64 0) (.string { data := #[] }) (.string { data := #[] }) (.int .i64 0) (.int .i64 0) (.int .i64 0) (.int .i64 0) (.int .i64 0) (.slice none 0 0)
      rw [← hwf] at zf kf ⊢
      refine one_end (W := wf) (i := ItemV.none) (dv := .slice none 0 0) zf rfl rfl ?_
      exact oneR_none (by rw [HO.out, if_neg HN.out]) (KW.out.1.1.trans kf (fun z q => .inr (by have q' : z = w.heap.size := q; omega)))
  · have hcap' : (2 : Int) < (cap0 : Int) := by omega
    have hdec2 := fun o => hdec o (off + 2) (.inl rfl)
    clear hdec
    go_enter Try.func35, Try.ntmps35
    go_upto_if 48 with (
      go_at_call 42
      refine (hdec2 _).mono ?_
      rintro e1 w2 ⟨a2, cap2, rfl, h1, h2, h3⟩)
    obtain ⟨w3, hw3⟩ : ∃ w3, w3 = w2.alloc (.cells #[.int .i64 c.op, .string c.path, .string c.to, .int .i64 c.fd, .int .i64 c.flags, .int .i64 c.mode, .int .i64 c.n, .int .i64 c.m, .slice a2 c.data.length cap2] 37) := ⟨_, rfl⟩
    have ka : Keep w (w.alloc (.cells #[.int .i64 0, .int .i64 0, .int .i64 0, .int .i64 0, .string { data := #[] }, .string { data := #[] }, .int .i64 0, .int .i64 0, .int .i64 0, .int .i64 0, .int .i64 0, .slice none 0 0] 39)) (fun _ => False) := Keep.alloc _ _ _
    have kb : Keep w2 w3 (fun _ => False) := by rw [hw3]; exact Keep.alloc _ _ _
    have kc := h2.trans kb (fun _ q => q.elim)
    have kw := ka.trans kc (fun _ q => q.elim)
    have z1 : w3.heap[w.heap.size]? = some (.cells #[.int .i64 0, .int .i64 0, .int .i64 0, .int .i64 0, .string { data := #[] }, .string { data := #[] }, .int .i64 0, .int .i64 0, .int .i64 0, .int .i64 0, .int .i64 0, .slice none 0 0] 39 (0, 0)) := kc.get (heap_alloc_eq w _) (fun q => q)
    have gc : w3.heap[w2.heap.size]? = some (.cells #[.int .i64 c.op, .string c.path, .string c.to, .int .i64 c.fd, .int .i64 c.flags, .int .i64 c.mode, .int .i64 c.n, .int .i64 c.m, .slice a2 c.data.length cap2] 37 (0, 0)) := by rw [hw3]; exact heap_alloc_eq _ _
    have m1 := kw.cell c1 (fun q => q)
    have h3' : ∀ z, (Value.slice a2 c.data.length cap2).ownBlock = some z → w.heap.size < z := fun z q => by
      have := h3 z q
      rw [World.size_alloc] at this
      omega
    have hfz : ∀ i, w3.frozen? ⟨w.heap.size, i, none⟩ = false := fun i => free_blk z1 i
    have v0 := cell_blk z1 0
    have v1 := cell_blk z1 1
    have v2 := cell_blk z1 2
    have v3 := cell_blk z1 3
    have v4 := cell_blk z1 4
    have v5 := cell_blk z1 5
    have v6 := cell_blk z1 6
    have v7 := cell_blk z1 7
    have v8 := cell_blk z1 8
    have v9 := cell_blk z1 9
    have v10 := cell_blk z1 10
    have v11 := cell_blk z1 11
    simp only [List.getElem?_toArray, List.getElem?_cons_zero, List.getElem?_cons_succ] at v0 v1 v2 v3 v4 v5 v6 v7 v8 v9 v10 v11
    have u0 := cell_blk gc 0
    have u1 := cell_blk gc 1
    have u2 := cell_blk gc 2
    have u3 := cell_blk gc 3
    have u4 := cell_blk gc 4
    have u5 := cell_blk gc 5
    have u6 := cell_blk gc 6
    have u7 := cell_blk gc 7
    have u8 := cell_blk gc 8
    simp only [List.getElem?_toArray, List.getElem?_cons_zero, List.getElem?_cons_succ] at u0 u1 u2 u3 u4 u5 u6 u7 u8
    rw [← hw3]
    have KW := Lib.hid (And.intro (And.intro kw z1) (And.intro (h1.aside kb) h3'))
    clear hw3 ka kb kc kw z1 gc h1 h2 h3 h3' hdec2 c0 c1
    by_cases he : e = 0
    · subst he
      have HO1 := Lib.hid (show oneI (x :: r) = (⟨1, (Y : Int), 0, c⟩, 2 + n) from by simpa using HO.out)
      go_wp2
      go_region_law (fail)
      all_goals go_wp2
      all_goals (
        obtain ⟨wf, hwf⟩ : ∃ wf, wf = (((((((((((w3.setCell ⟨w.heap.size, 0, none⟩ (.int .i64 1)).setCell ⟨w.heap.size, 1, none⟩ (.int .i64 (Y : Int))).setCell ⟨w.heap.size, 2, none⟩ (.int .i64 0)).setCell ⟨w.heap.size, 3, none⟩ (.int .i64 c.op)).setCell ⟨w.heap.size, 4, none⟩ (.string c.path)).setCell ⟨w.heap.size, 5, none⟩ (.string c.to)).setCell ⟨w.heap.size, 6, none⟩ (.int .i64 c.fd)).setCell ⟨w.heap.size, 7, none⟩ (.int .i64 c.flags)).setCell ⟨w.heap.size, 8, none⟩ (.int .i64 c.mode)).setCell ⟨w.heap.size, 9, none⟩ (.int .i64 c.n)).setCell ⟨w.heap.size, 10, none⟩ (.int .i64 c.m)).setCell ⟨w.heap.size, 11, none⟩ (.slice a2 c.data.length cap2) := ⟨_, rfl⟩
        obtain ⟨zf, kf⟩ := set12 KW.out.1.2 (.int .i64 1) (.int .i64 (Y : Int)) (.int .i64 0) (.int .i64 c.op) (.string c.path) (.string c.to) (.int .i64 c.fd) (.int .i64 c.flags) (.int .i64 c.mode) (.int .i64 c.n) (.int .i64 c.m) (.slice a2 c.data.length cap2)
        rw [← hwf] at zf kf ⊢
        have kf := kf.trans (Keep.drew wf (fun _ => False)) (fun _ q => q.elim)
        refine one_end (W := wf.drew) (i := ⟨1, (Y : Int), 0, c⟩) (dv := .slice a2 c.data.length cap2) zf rfl rfl ?_
        unfold OneR
        rw [HO1.out]
        refine ⟨a2, cap2, by simp only [Int.natCast_add, Int.cast_ofNat_Int]; rfl, KW.out.2.1.keep kf (fun z q e => by have := KW.out.2.2 z q; have e' : z = w.heap.size := e; omega), KW.out.1.1.trans kf (fun z q => .inr (by have q' : z = w.heap.size := q; omega)), fun z q => Nat.le_of_lt (KW.out.2.2 z q)⟩)
    · have g0 : (e != 0) = true := by simpa using he
      have HN := Lib.hid he
      clear he
      go_wp2
      obtain ⟨wf, hwf⟩ : ∃ wf, wf = (((((((((((w3.setCell ⟨w.heap.size, 0, none⟩ (.int .i64 0)).setCell ⟨w.heap.size, 1, none⟩ (.int .i64 0)).setCell ⟨w.heap.size, 2, none⟩ (.int .i64 0)).setCell ⟨w.heap.size, 3, none⟩ (.int .i64 0)).setCell ⟨w.heap.size, 4, none⟩ (.string { data := #[] })).setCell ⟨w.heap.size, 5, none⟩ (.string { data := #[] })).setCell ⟨w.heap.size, 6, none⟩ (.int .i64 0)).setCell ⟨w.heap.size, 7, none⟩ (.int .i64 0)).setCell ⟨w.heap.size, 8, none⟩ (.int .i64 0)).setCell ⟨w.heap.size, 9, none⟩ (.int .i64 0)).setCell ⟨w.heap.size, 10, none⟩ (.int .i64 0)).setCell ⟨w.heap.size, 11, none⟩ (.slice none 0 0) := ⟨_, rfl⟩
      obtain ⟨zf, kf⟩ := set12 KW.out.1.2 (.int .i64 0) (.int .i64 0) (.int .i64 0) (.int .i64 0) (.string { data := #[] }) (.string { data := #[] }) (.int .i64 0) (.int .i64 0) (.int .i64 0) (.int .i64 0) (.int .i64 0) (.slice none 0 0)
      rw [← hwf] at zf kf ⊢
      refine one_end (W := wf) (i := ItemV.none) (dv := .slice none 0 0) zf rfl rfl ?_
      exact oneR_none (by rw [HO.out, if_neg HN.out]) (KW.out.1.1.trans kf (fun z q => .inr (by have q' : z = w.heap.size := q; omega)))

set_option maxHeartbeats 4000000 in
theorem one_c {w : World} {v : Value} {b : Bs} (hb : BSl w v b) (h0 : 0 < b.length) :
    Calls Try.prog 35 #[v] w fun r w' => OneR w w' b r := by
  obtain ⟨x, r, rfl⟩ : ∃ x r, b = x :: r := by
    cases b with
    | nil => simp at h0
    | cons x r => exact ⟨x, r, rfl⟩
  obtain ⟨a0, cap0, rfl, hlc, hcm⟩ := hb.val
  have hb0 := Lib.hid hb
  obtain ⟨blk, off, rfl, hbk, hf⟩ := hb.some h0
  have c0 := hf 0 x rfl
  rw [Nat.add_zero] at c0
  unfold u8V at c0
  have hx := byte_lt x
  obtain ⟨len, hlen⟩ : ∃ len, len = (x :: r).length := ⟨_, rfl⟩
  have hrl : r.length + 1 = len := by rw [hlen]; rfl
  rw [← hlen] at hb hlc h0 ⊢
  have HL := Lib.hid hlen
  unfold maxLen at hcm
  have HB := Lib.hid (And.intro hb hf)
  clear hlen
  have hz : Hid (∀ o : Array Value, w.heap[w.heap.size]? = none) := Lib.hid (fun _ => by simp)
  clear hb hf
  have hxw : IntKind.i64.wrap (x.toNat : Int) = (x.toNat : Int) := IntWalk.i64_in _ (by omega)
  have e0 : ItemV.none = (⟨0, 0, 0, ⟨0, ⟨#[]⟩, ⟨#[]⟩, 0, 0, 0, 0, 0, []⟩⟩ : ItemV) := rfl
  have hend : ∀ (n : Nat) (T : Array Value), oneI (x :: r) = (ItemV.none, n) → T.getD 2 undef = .pointer (some ⟨w.heap.size, 0, none⟩) → T.getD 3 undef = .int .i64 n →
      bodyPost Try.prog Try.f35 (fun r_1 w' => OneR w w' (x :: r) r_1) .ret { tmps := T, defers := [] } (w.alloc (.cells #[.int .i64 0, .int .i64 0, .int .i64 0, .int .i64 0, .string { data := #[] }, .string { data := #[] }, .int .i64 0, .int .i64 0, .int .i64 0, .int .i64 0, .int .i64 0, .slice none 0 0] 39)) := fun n T h1 h2 h3 =>
    one_end (i := ItemV.none) (dv := .slice none 0 0) (heap_alloc_eq w _) h2 h3 (oneR_none h1 (Keep.alloc w _ _))
  have HE := Lib.hid hend
  clear hend
  by_cases g1 : x.toNat < 1
  · have g1' : (x.toNat : Int) < 1 := by omega
    go_enter Try.func35, Try.ntmps35
    go_wp2
    exact HE.out 1 _ (one_out (.inl g1)) rfl rfl
  by_cases g2 : 3 < x.toNat
  · have g1' : ¬ (x.toNat : Int) < 1 := by omega
    have g2' : 3 < (x.toNat : Int) := by omega
    go_enter Try.func35, Try.ntmps35
    go_wp2
    exact HE.out 1 _ (one_out (.inr g2)) rfl rfl
  have g1' : ¬ (x.toNat : Int) < 1 := by omega
  have g2' : ¬ 3 < (x.toNat : Int) := by omega
  by_cases g3 : r.length < 1
  · have g3' : (len : Int) < 2 := by omega
    go_enter Try.func35, Try.ntmps35
    go_wp2
    exact HE.out 0 _ (one_short g1 g2 g3) rfl rfl
  have g3' : ¬ (len : Int) < 2 := by omega
  by_cases g4 : x.toNat = 1
  · have g4' : (x.toNat : Int) = 1 := by omega
    rw [HL.out]
    exact one1_c hb0.out g4 (by omega)
  · have g4' : ¬ (x.toNat : Int) = 1 := by omega
    by_cases g5 : r.length < 2
    · have g5' : (len : Int) < 3 := by omega
      go_enter Try.func35, Try.ntmps35
      go_wp2
      exact HE.out 0 _ (one_short3 g1 g2 g4 g5) rfl rfl
    · have g5' : ¬ (len : Int) < 3 := by omega
      have g6 : (1 : Int) < (len : Int) := by omega
      have g7 : (2 : Int) < (len : Int) := by omega
      obtain ⟨y, z, s, hyz⟩ : ∃ y z s, r = y :: z :: s := by
        match r, g5 with
        | y :: z :: s, _ => exact ⟨y, z, s, rfl⟩
        | [y], h => simp at h
        | [], h => simp at h
      have hO := one_step g1 g2 g4 g5
      have c1 := HB.out.2 1 y (by rw [hyz]; rfl)
      have c2 := HB.out.2 2 z (by rw [hyz]; rfl)
      unfold u8V at c1 c2
      have hy := byte_lt y
      have hzz := byte_lt z
      have hrd := read2 hy hzz
      have hv2 : val2 r = y.toNat * 256 + z.toNat := by rw [hyz]; rfl
      rw [hv2] at hO
      have HO := Lib.hid hO
      clear hO g5 hyz hv2 hrl
      generalize y.toNat = Y at *
      generalize z.toNat = Z at *
      go_enter Try.func35, Try.ntmps35
      go_wp2
      obtain ⟨w1, hw1⟩ : ∃ w1, w1 = w.alloc (.cells #[.int .i64 0, .int .i64 0, .int .i64 0, .int .i64 0, .string { data := #[] }, .string { data := #[] }, .int .i64 0, .int .i64 0, .int .i64 0, .int .i64 0, .int .i64 0, .slice none 0 0] 39) := ⟨_, rfl⟩
      have kw : Keep w w1 (fun _ => False) := by rw [hw1]; exact Keep.alloc _ _ _
      have z1 : w1.heap[w.heap.size]? = some (.cells #[.int .i64 0, .int .i64 0, .int .i64 0, .int .i64 0, .string { data := #[] }, .string { data := #[] }, .int .i64 0, .int .i64 0, .int .i64 0, .int .i64 0, .int .i64 0, .slice none 0 0] 39 (0, 0)) := by rw [hw1]; exact heap_alloc_eq _ _
      have m1 := kw.cell c1 (fun q => q)
      have m2 := kw.cell c2 (fun q => q)
      have fz : ∀ i, w1.frozen? ⟨w.heap.size, i, none⟩ = false := fun i => free_blk z1 i
      have v0 := cell_blk z1 0
      have v1 := cell_blk z1 1
      have v2 := cell_blk z1 2
      have v3 := cell_blk z1 3
      have v4 := cell_blk z1 4
      have v5 := cell_blk z1 5
      have v6 := cell_blk z1 6
      have v7 := cell_blk z1 7
      have v8 := cell_blk z1 8
      have v9 := cell_blk z1 9
      have v10 := cell_blk z1 10
      have v11 := cell_blk z1 11
      simp only [List.getElem?_toArray, List.getElem?_cons_zero, List.getElem?_cons_succ] at v0 v1 v2 v3 v4 v5 v6 v7 v8 v9 v10 v11
      rw [← hw1]
      have KW := Lib.hid (And.intro kw z1)
      clear hw1 c0 c1 c2 kw z1 e0
      go_still_tail 12, (by kernel_rfl)
      go_wp2
      obtain ⟨wf, hwf⟩ : ∃ wf, wf = (((((((((((w1.setCell ⟨w.heap.size, 0, none⟩ (.int .i64 (x.toNat : Int))).setCell ⟨w.heap.size, 1, none⟩ (.int .i64 0)).setCell ⟨w.heap.size, 2, none⟩ (.int .i64 ((Y : Int) * 256 + (Z : Int)))).setCell ⟨w.heap.size, 3, none⟩ (.int .i64 0)).setCell ⟨w.heap.size, 4, none⟩ (.string { data := #[] })).setCell ⟨w.heap.size, 5, none⟩ (.string { data := #[] })).setCell ⟨w.heap.size, 6, none⟩ (.int .i64 0)).setCell ⟨w.heap.size, 7, none⟩ (.int .i64 0)).setCell ⟨w.heap.size, 8, none⟩ (.int .i64 0)).setCell ⟨w.heap.size, 9, none⟩ (.int .i64 0)).setCell ⟨w.heap.size, 10, none⟩ (.int .i64 0)).setCell ⟨w.heap.size, 11, none⟩ (.slice none 0 0) := ⟨_, rfl⟩
      obtain ⟨zf, kf⟩ := set12 KW.out.2 (.int .i64 (x.toNat : Int)) (.int .i64 0) (.int .i64 ((Y : Int) * 256 + (Z : Int))) (.int .i64 0) (.string { data := #[] }) (.string { data := #[] }) (.int .i64 0) (.int .i64 0) (.int .i64 0) (.int .i64 0) (.int .i64 0) (.slice none 0 0)
      rw [← hwf] at zf kf ⊢
      have kk := KW.out.1.trans (kf.trans (Keep.drew wf (fun _ => False)) (fun _ q => q.elim)) (fun z q => .inr (by have q' : z = w.heap.size := q; omega))
      refine one_end (W := wf.drew) (i := ⟨x.toNat, 0, (Y : Int) * 256 + (Z : Int), CallV.none⟩) (dv := .slice none 0 0) zf rfl rfl ?_
      unfold OneR
      rw [HO.out, show ((Y * 256 + Z : Nat) : Int) = (Y : Int) * 256 + (Z : Int) by omega]
      exact ⟨none, 0, rfl, BSl.nil _, kk, fun z q => by simp [Value.ownBlock] at q⟩

end Go.Proofs.Ytmokbgihpfnmbaa
