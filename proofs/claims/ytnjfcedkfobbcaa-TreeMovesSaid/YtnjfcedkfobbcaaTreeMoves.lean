/-
  TreeMoves: the walk.
-/
import Derived.Test.YtnjfcedkfobbcaaTame
import Derived.Test.YtnjfcedkfobbcaaTreeBack
namespace Go.Proofs.Ytnjfcedkfobbcaa
open Go Go.RowKit Go.Shelf
set_option linter.unusedSectionVars false
set_option linter.unusedSimpArgs false
set_option linter.unusedVariables false
set_option maxRecDepth 100000

/-- All names are those of three. -/
def abcT (T : TreeV) : Prop := ∀ x ∈ T.all, ∀ e ∈ x.2.names, e.1 = ka ∨ e.1 = kb ∨ e.1 = kC

theorem abc_new (n b : Int) : abcT (TreeV.new n b) := by
  intro x hx e he
  simp only [TreeV.new, List.mem_cons, List.not_mem_nil, or_false] at hx
  subst hx
  cases he
theorem abc_make {T : TreeV} (h : abcT T) {r : Bool} {d : Int} {s : ByteArray} (hs : s = ka ∨ s = kb ∨ s = kC) (kind mode uid gid : Int) (text : ByteArray) : abcT (T.make r d s kind mode uid gid text).1 := by
  unfold TreeV.make
  cases T.dir d with
  | none => exact h
  | some x =>
    dsimp only
    repeat (split; · exact h)
    have hadd : abcT (T.add kind mode uid gid text) := by
      intro y hy e he
      rcases mem_aset_any (show y ∈ aset T.all (T.made + 1) _ from hy) with q | q
      · rw [q] at he; cases he
      · exact h y q e he
    generalize T.add kind mode uid gid text = U at hadd ⊢
    dsimp only
    unfold TreeV.give
    split
    · rename_i dx x' h1 h2
      intro y hy e he
      rcases mem_aset_any hy with q | q
      · rw [q] at he
        exact hadd _ (aget_memN h2) e he
      · rcases mem_aset_any q with q | q
        · rw [q] at he
          rcases mem_asetS he with z | z
          · rw [z]; exact hs
          · exact hadd _ (aget_memN h1) e z
        · exact hadd y q e he
    · exact hadd
theorem abc_len {T : TreeV} (h : abcT T) (ho : T.ok) : ∀ x ∈ T.all, x.2.names.length ≤ 3 := by
  intro x hx
  have := s_nodup_len (d := x.2.names.map Prod.fst) (K := [ka, kb, kC]) (ho.once x hx) (by decide) (fun y hy => by
    obtain ⟨e, he, rfl⟩ := List.mem_map.1 hy
    have := h x hx e he
    simpa using this)
  rw [List.length_map] at this
  exact this

abbrev kN : ByteArray := ⟨#[110, 101, 119]⟩
theorem right_kN : RightIs kN true := rightIs (l := [110, 101, 119]) (by decide +kernel)

theorem built_at4 (W : World) (a b c d : ByteArray) (m : Int) (h0 : 0 ≤ m) (h1 : m ≤ 3) : ∃ s, (s = a ∨ s = b ∨ s = c ∨ s = d) ∧ (W.alloc (.cells #[.string a, .string b, .string c, .string d] 9)).cell? ⟨W.heap.size, m.toNat, none⟩ = some (.string s) := by
  rcases (by omega : m = 0 ∨ m = 1 ∨ m = 2 ∨ m = 3) with rfl | rfl | rfl | rfl
  · exact ⟨a, by simp, by rw [cell_blk (heap_alloc_eq W _)]; rfl⟩
  · exact ⟨b, by simp, by rw [cell_blk (heap_alloc_eq W _)]; rfl⟩
  · exact ⟨c, by simp, by rw [cell_blk (heap_alloc_eq W _)]; rfl⟩
  · exact ⟨d, by simp, by rw [cell_blk (heap_alloc_eq W _)]; rfl⟩
theorem built_at3 (W : World) (a b c : ByteArray) (m : Int) (h0 : 0 ≤ m) (h1 : m ≤ 2) : ∃ s, (s = a ∨ s = b ∨ s = c) ∧ (W.alloc (.cells #[.string a, .string b, .string c] 9)).cell? ⟨W.heap.size, m.toNat, none⟩ = some (.string s) := by
  rcases (by omega : m = 0 ∨ m = 1 ∨ m = 2) with rfl | rfl | rfl
  · exact ⟨a, by simp, by rw [cell_blk (heap_alloc_eq W _)]; rfl⟩
  · exact ⟨b, by simp, by rw [cell_blk (heap_alloc_eq W _)]; rfl⟩
  · exact ⟨c, by simp, by rw [cell_blk (heap_alloc_eq W _)]; rfl⟩

set_option maxHeartbeats 1600000 in
theorem moves_walk (a : Option Addr) (len cap : Nat) (n1 n2 n3 n4 : Int) (w : World) (h : StructsIs asksT w a len cap) (_h1 : (Lit.int .i64 n1).wf = true) (_h2 : (Lit.int .i64 n2).wf = true) (_h3 : (Lit.int .i64 n3).wf = true) (_h4 : (Lit.int .i64 n4).wf = true) :
    Calls Try.prog 3 #[.slice a len cap, .int .i64 n1, .int .i64 n2, .int .i64 n3, .int .i64 n4] w fun r w' => r = .returned (.bool true) ∧ Below w.heap.size w w' := by
  clear _h1 _h2 _h3 _h4
  have h0 := newt_c (Keep.refl w _) 30 4 ⟨by decide, by decide⟩ ⟨by decide, by decide⟩
  have hcap := h.cap
  have hl1 : len ≤ 9223372036854775807 := by unfold maxLen at hcap; omega
  have HP := Lib.hid h
  clear hcap h
  go_enter Try.func3, Try.ntmps3
  go_wp2_with (
    go_at_call 9
    refine h0.mono ?_
    rintro e w1 ⟨tb, s0, rfl, c0, -⟩
    have C0 := Lib.hid (And.intro c0 (abc_new 30 4))
    clear h0 c0)
  go_loopg [13] 30 (fun g s13 wr => ∃ (i : Nat) (s : TShape) (T : TreeV), s13 = .int .i64 i ∧ i + g = 30 ∧ abcT T ∧ TCur w wr tb s T 4 (1 + 3 * i))
  case atStart => exact ⟨0, s0, _, rfl, rfl, C0.out.2, C0.out.1⟩
  case round =>
    obtain ⟨i, s, T, rfl, hig, habc, hc⟩ := hrel
    have C := Lib.hid (And.intro hc habc)
    clear hc habc
    by_cases h30 : (i : Int) < 30
    · by_cases hlt : i < len
      · have hlt' : (i : Int) < (len : Int) := by omega
        have hk9 : (1 + 3 * (i : Int)) ≤ 900000 := by omega
        obtain ⟨b1, o1, rfl, hb1, f1⟩ := asksT_at HP.out (by omega)
        obtain ⟨x, hx, -⟩ := f1 i hlt
        obtain ⟨y0, y1, y2, y3, y4, y5, y6, y7, y8, y9, y10, y11, y12, y13⟩ := hx.keep C.out.1.keep (fun q => q)
        have htm := fun w' => tame_c w' x
        simp only [askC] at htm
        clear f1 hx hb1
        go_wp2_with (first
          | (go_at_call 10
             refine (htm _).mono ?_
             rintro e w2 ⟨d, t, sk, ak, kk, rfl, hd, ht, hsk, hak, hkk, k2⟩
             have kz := Keep.alloc w2 (.cells (askC { x with dir := d, to_ := t, s := sk, as_ := ak, st := { x.st with kind := kk } }) 31) (fun _ => False)
             have C2 := (C.out.1.step k2).step kz
             obtain ⟨-, z1, z2, -, z4, z5, z6, z7, z8, z9, z10, z11, z12, -⟩ := askAt_blk (heap_alloc_eq w2 (.cells (askC { x with dir := d, to_ := t, s := sk, as_ := ak, st := { x.st with kind := kk } }) 31))
             have hmk := make_t C2 hk9 (right_key hsk) d { x.st with kind := kk } ByteArray.empty
             simp only [askC, Nat.zero_add] at z1 z2 z4 z5 z6 z7 z8 z9 z10 z11 z12 hmk
             simp only [statC] at hmk
             have HA := Lib.hid (abc_make (r := true) (d := d) C.out.2 hsk kk (maskV x.st.mode) x.st.uid x.st.gid ByteArray.empty)
             clear htm k2 kz C2 hd ht hsk hak hkk y0 y1 y2 y3 y4 y5 y6 y7 y8 y9 y10 y11 y12 y13)
          | (go_at_call 11
             refine (hmk _ (Keep.refl _ _)).mono ?_
             rintro e w3 ⟨rfl, s3, c3, -⟩
             have C3 := Lib.hid c3
             clear hmk c3))
        go_roundg (30 - (i + 1))
        case measure => omega
        case rel => exact ⟨i + 1, s3, _, by go_num, by omega, HA.out, C3.out.more (by omega)⟩
      · have hlt' : ¬ (i : Int) < (len : Int) := by omega
        have hi1 := within_c wr n1 0 5 (by omega) (by omega) (by omega)
        have hi2 := within_c wr n2 0 5 (by omega) (by omega) (by omega)
        have hi3 := within_c (wr.alloc (.cells #[.string ka, .string kb, .string kC] 9)) n3 0 2 (by omega) (by omega) (by omega)
        have hi4 := within_c ((wr.alloc (.cells #[.string ka, .string kb, .string kC] 9)).alloc (.cells #[.string ka, .string kb, .string kC, .string kN] 9)) n4 0 3 (by omega) (by omega) (by omega)
        have HI := Lib.hid (show i ≤ 30 by omega)
        go_upto_region 13 with (first
          | (go_at_call 12
             refine hi1.mono ?_
             rintro e w1 ⟨d0, hd0, hd1, rfl, rfl⟩
             clear hi1)
          | (go_at_call 12
             refine hi2.mono ?_
             rintro e w1 ⟨e0, he0, he1, rfl, rfl⟩
             clear hi2)
          | (go_at_call 12
             refine hi3.mono ?_
             rintro e w1 ⟨m3, h30', h31', rfl, rfl⟩
             obtain ⟨sa, hsa, cz3⟩ := built_at3 wr ka kb kC m3 h30' h31'
             clear hi3)
          | (go_at_call 12
             refine hi4.mono ?_
             rintro e w1 ⟨m4, h40', h41', rfl, rfl⟩
             obtain ⟨sb, hsb, cz4⟩ := built_at4 (wr.alloc (.cells #[.string ka, .string kb, .string kC] 9)) ka kb kC kN m4 h40' h41'
             rw [show (wr.alloc (.cells #[.string ka, .string kb, .string kC] 9)).heap.size = wr.heap.size + 1 by simp] at cz4
             clear hi4))
        have C2 := Lib.hid ((C.out.1.step (Keep.alloc wr (.cells #[.string ka, .string kb, .string kC] 9) _)).step (Keep.alloc (wr.alloc (.cells #[.string ka, .string kb, .string kC] 9)) (.cells #[.string ka, .string kb, .string kC, .string kN] 9) _))
        have hrb : RightIs sb true := by
          rcases hsb with rfl | rfl | rfl | rfl
          · exact right_a
          · exact right_b
          · exact right_kC
          · exact right_kN
        have hra := right_key hsa
        have HR := Lib.hid (And.intro hra hrb)
        generalize (wr.alloc (.cells #[.string ka, .string kb, .string kC] 9)).alloc (.cells #[.string ka, .string kb, .string kC, .string kN] 9) = w2 at *
        have gd : ∃ d, 1 + d0 = d := ⟨_, rfl⟩
        have ge : ∃ e, 1 + e0 = e := ⟨_, rfl⟩
        obtain ⟨d, hd⟩ := gd
        obtain ⟨e, he⟩ := ge
        rw [hd, he]
        clear hd he hd0 hd1 he0 he1 cz3 cz4 hsa hsb hra hrb
        obtain ⟨fm, had, hfm⟩ : ∃ a b, T.find e sb = (a, b) := ⟨_, _, rfl⟩
        obtain ⟨n, ok, hfn⟩ : ∃ a b, T.find d sa = (a, b) := ⟨_, _, rfl⟩
        obtain ⟨⟨p0, p1, p2, p3, p4, p5, p6⟩, pb, hp⟩ : ∃ p b, T.stat d = (p, b) := ⟨_, _, rfl⟩
        obtain ⟨⟨q0, q1, q2, q3, q4, q5, q6⟩, qb, hq⟩ : ∃ p b, T.stat e = (p, b) := ⟨_, _, rfl⟩
        obtain ⟨U, v, hU⟩ : ∃ U v, T.move true d sa e sb = (U, v) := ⟨_, _, rfl⟩
        have hF1 := tfind_c C2.out.tab e sb
        have hF2 := tfind_c C2.out.tab d sa
        rw [hfm] at hF1
        rw [hfn] at hF2
        have hS1 := stat_p C2.out (by have := HI.out; omega) d hp
        simp only at hS1
        have HV := Lib.hid (And.intro hfm (And.intro hfn (And.intro hp (And.intro hq hU))))
        clear hfm hfn hp hq hU
        go_upto_region 18 with (first
          | (go_at_call 13
             refine hF1.mono ?_
             rintro e' w1 ⟨rfl, rfl⟩
             clear hF1)
          | (go_at_call 13
             refine hF2.mono ?_
             rintro e' w1 ⟨rfl, rfl⟩
             clear hF2)
          | (go_at_call 14
             refine (hS1 _ (Keep.refl _ _)).mono ?_
             rintro e' wq1 ⟨rfl, k1⟩
             have C3 := Lib.hid ((C2.out.step k1).step (Keep.alloc wq1 (.cells #[.int .i64 p0, .int .i64 p1, .int .i64 p2, .int .i64 p3, .int .i64 p4, .int .i64 p5, .int .i64 p6] 28) _))
             have z1 : w2.heap.size ≤ wq1.heap.size := k1.size
             have Y1 := Lib.hid (And.intro (StatAt.mk (w := wq1.alloc (.cells #[.int .i64 p0, .int .i64 p1, .int .i64 p2, .int .i64 p3, .int .i64 p4, .int .i64 p5, .int .i64 p6] 28)) (b := wq1.heap.size) (x := ⟨p0, p1, p2, p3, p4, p5, p6⟩) (heap_alloc_eq wq1 _)) z1)
             have hS2 := stat_p C3.out (by have := HI.out; omega) e HV.out.2.2.2.1
             simp only at hS2
             clear hS1 k1 z1)
          | (go_at_call 14
             refine (hS2 _ (Keep.refl _ _)).mono ?_
             rintro e' wq2 ⟨rfl, k2⟩
             have C4 := Lib.hid ((C3.out.step k2).step (Keep.alloc wq2 (.cells #[.int .i64 q0, .int .i64 q1, .int .i64 q2, .int .i64 q3, .int .i64 q4, .int .i64 q5, .int .i64 q6] 28) _))
             have z2 : wq1.heap.size < wq2.heap.size := by have h9 := k2.size; rw [show (wq1.alloc (.cells #[.int .i64 p0, .int .i64 p1, .int .i64 p2, .int .i64 p3, .int .i64 p4, .int .i64 p5, .int .i64 p6] 28)).heap.size = wq1.heap.size + 1 by simp] at h9; omega
             have Y2 := Lib.hid (And.intro (StatAt.mk ((Keep.alloc wq2 (.cells #[.int .i64 q0, .int .i64 q1, .int .i64 q2, .int .i64 q3, .int .i64 q4, .int .i64 q5, .int .i64 q6] 28) (fun _ => False)).get (k2.get Y1.out.1.blk (fun q => q)) (fun q => q))) (And.intro (StatAt.mk (w := wq2.alloc (.cells #[.int .i64 q0, .int .i64 q1, .int .i64 q2, .int .i64 q3, .int .i64 q4, .int .i64 q5, .int .i64 q6] 28)) (b := wq2.heap.size) (x := ⟨q0, q1, q2, q3, q4, q5, q6⟩) (heap_alloc_eq wq2 _)) z2))
             have hmv := move_t C4.out (by have := HI.out; omega) HR.out.2 d sa e
             rw [HV.out.2.2.2.2] at hmv
             clear hS2 k2 z2)
          | (go_at_call 15
             refine (hmv _ (Keep.refl _ _)).mono ?_
             rintro e' w5 ⟨rfl, s5, c5, t5⟩
             have hs4 : ∀ b, s.has b → b < w2.heap.size := fun b q => by
               cases hq : s.tag b with
               | none => exact absurd hq q
               | some g => exact C2.out.tab.lt b g hq
             have y1 := t5.keep.get Y2.out.1.blk (fun q => by have := hs4 _ q; have := Y1.out.2; omega)
             have y2 := t5.keep.get Y2.out.2.1.blk (fun q => by have := hs4 _ q; have := Y1.out.2; have := Y2.out.2.2; omega)
             have Y5 := Lib.hid (And.intro (StatAt.mk (x := ⟨p0, p1, p2, p3, p4, p5, p6⟩) y1) (StatAt.mk (x := ⟨q0, q1, q2, q3, q4, q5, q6⟩) y2))
             have z5 : ∀ b, s5.has b → ¬ b = wq1.heap.size ∧ ¬ b = wq2.heap.size := fun b q => by
               have zz : (wq2.alloc (.cells #[.int .i64 q0, .int .i64 q1, .int .i64 q2, .int .i64 q3, .int .i64 q4, .int .i64 q5, .int .i64 q6] 28)).heap.size = wq2.heap.size + 1 := by simp
               rcases t5.new b q with z | z
               · have := hs4 _ z; have := Y1.out.2; have := Y2.out.2.2; omega
               · have := Y2.out.2.2; omega
             have Z5 := Lib.hid z5
             have C5 := Lib.hid (show TCur w w5 tb s5 U 4 _ from c5)
             clear hmv t5 c5 hs4 y1 y2 z5))
        have hK := tknown_c w5
        by_cases hvv : v = 0 ∧ had = false
        · obtain ⟨rfl, rfl⟩ := hvv
          have hm2 : (T.move true d sa e sb).2 = 0 := by rw [HV.out.2.2.2.2]
          have hz2 : (T.find e sb).2 = false := by rw [HV.out.1]
          have D := undone C.out.1.good.ok (abc_len C.out.2 C.out.1.good.ok) hm2 hz2
          have D1 := D.found
          have D2 := D.there
          have D3 := D.gone
          have D4 := D.back
          have D5 := D.again
          have D6 := D.statD
          have D7 := D.statE
          rw [HV.out.2.2.2.2] at D2 D3 D4 D5 D6 D7
          rw [HV.out.2.1] at D1 D2 D5
          rw [HV.out.2.2.1] at D6
          rw [HV.out.2.2.2.1] at D7
          simp only at D1 D2 D3 D4 D5 D6 D7
          subst D1
          obtain ⟨V, v9, hV⟩ : ∃ V v, U.move true e sb d sa = (V, v) := ⟨_, _, rfl⟩
          rw [hV] at D4 D5 D6 D7
          simp only at D4 D5 D6 D7
          subst D4
          obtain ⟨gx, gb, hgx⟩ : ∃ a b, U.find d sa = (a, b) := ⟨_, _, rfl⟩
          rw [hgx] at D3
          simp only at D3
          subst D3
          have hG1 := tfind_c C5.out.tab e sb
          rw [D2] at hG1
          have hG2 := tfind_c C5.out.tab d sa
          rw [hgx] at hG2
          have hmb := move_t C5.out (by have := HI.out; omega) HR.out.1 e sb d
          rw [hV] at hmb
          have HD := Lib.hid (And.intro D5 (And.intro D6 D7))
          clear D D2 D5 D6 D7 hV hgx hm2 hz2 hK
          have gnn : (n != n) = false := by simp
          go_upto_region 28 with (first
            | (go_at_call 13
               refine hG1.mono ?_
               rintro e' w1 ⟨rfl, rfl⟩
               clear hG1)
            | (go_at_call 13
               refine hG2.mono ?_
               rintro e' w1 ⟨rfl, rfl⟩
               clear hG2)
            | (go_at_call 15
               refine (hmb _ (Keep.refl _ _)).mono ?_
               rintro e' w6 ⟨rfl, s6, c6, t6⟩
               have y1 := t6.keep.get Y5.out.1.blk (fun q => (Z5.out _ q).1 rfl)
               have y2 := t6.keep.get Y5.out.2.blk (fun q => (Z5.out _ q).2 rfl)
               have Y6 := Lib.hid (And.intro (StatAt.mk (x := ⟨p0, p1, p2, p3, p4, p5, p6⟩) y1) (StatAt.mk (x := ⟨q0, q1, q2, q3, q4, q5, q6⟩) y2))
               have C6 := Lib.hid (show TCur w w6 tb s6 V 4 _ from c6)
               have hS3 := stat_p C6.out (by have := HI.out; omega) d HD.out.2.1
               simp only at hS3
               clear hmb t6 c6 y1 y2)
            | (go_at_call 14
               refine (hS3 _ (Keep.refl _ _)).mono ?_
               rintro e' wq3 ⟨rfl, k3⟩
               have kz : Keep w6 (wq3.alloc (.cells #[.int .i64 p0, .int .i64 p1, .int .i64 p2, .int .i64 p3, .int .i64 p4, .int .i64 p5, .int .i64 p6] 28)) (fun _ => False) := k3.allocNew _
               have C7 := Lib.hid (C6.out.step kz)
               have Y7 := Lib.hid (And.intro (StatAt.mk (kz.get Y6.out.1.blk (fun q => q))) (And.intro (StatAt.mk (kz.get Y6.out.2.blk (fun q => q))) (StatAt.mk (w := wq3.alloc (.cells #[.int .i64 p0, .int .i64 p1, .int .i64 p2, .int .i64 p3, .int .i64 p4, .int .i64 p5, .int .i64 p6] 28)) (b := wq3.heap.size) (x := ⟨p0, p1, p2, p3, p4, p5, p6⟩) (heap_alloc_eq wq3 _))))
               have hS4 := stat_p C7.out (by have := HI.out; omega) e HD.out.2.2
               simp only at hS4
               clear hS3 k3 kz)
            | (go_at_call 14
               refine (hS4 _ (Keep.refl _ _)).mono ?_
               rintro e' wq4 ⟨rfl, k4⟩
               have kz : Keep _ (wq4.alloc (.cells #[.int .i64 q0, .int .i64 q1, .int .i64 q2, .int .i64 q3, .int .i64 q4, .int .i64 q5, .int .i64 q6] 28)) (fun _ => False) := k4.allocNew _
               have C8 := Lib.hid (C7.out.step kz)
               obtain ⟨a0, a1, a2, a3, a4, a5, a6⟩ := (StatAt.mk (kz.get Y7.out.1.blk (fun q => q))).cells
               obtain ⟨b0, b1, b2, b3, b4, b5, b6⟩ := (StatAt.mk (kz.get Y7.out.2.1.blk (fun q => q))).cells
               obtain ⟨i0, i1, i2, i3, i4, i5, i6⟩ := (StatAt.mk (kz.get Y7.out.2.2.blk (fun q => q))).cells
               obtain ⟨j0, j1, j2, j3, j4, j5, j6⟩ := (StatAt.mk (w := wq4.alloc (.cells #[.int .i64 q0, .int .i64 q1, .int .i64 q2, .int .i64 q3, .int .i64 q4, .int .i64 q5, .int .i64 q6] 28)) (b := wq4.heap.size) (x := ⟨q0, q1, q2, q3, q4, q5, q6⟩) (heap_alloc_eq wq4 _)).cells
               simp only at a0 a1 a2 a3 a4 a5 a6 b0 b1 b2 b3 b4 b5 b6 i0 i1 i2 i3 i4 i5 i6 j0 j1 j2 j3 j4 j5 j6
               have hF9 := tfind_c C8.out.tab d sa
               rw [HD.out.1] at hF9
               have hK := tknown_c (wq4.alloc (.cells #[.int .i64 q0, .int .i64 q1, .int .i64 q2, .int .i64 q3, .int .i64 q4, .int .i64 q5, .int .i64 q6] 28))
               clear hS4 k4 kz)
            | (go_at_call 13
               refine hF9.mono ?_
               rintro e' w1 ⟨rfl, rfl⟩
               clear hF9))
          go_wp2_with (
            go_at_call 16
            refine hK.mono ?_
            rintro e' wk ⟨rfl, kk⟩
            have CK := Lib.hid (C8.out.step kk)
            clear hK kk)
          go_ret
          exact ⟨rfl, CK.out.below⟩
        · by_cases hv0 : v = 0
          · subst hv0
            have hh : had = true := by
              cases had with
              | true => rfl
              | false => exact absurd ⟨rfl, rfl⟩ hvv
            subst hh
            clear hvv
            go_wp2_with (
              go_at_call 16
              refine hK.mono ?_
              rintro e' wk ⟨rfl, kk⟩
              have CK := Lib.hid (C5.out.step kk)
              clear hK kk)
            go_ret
            exact ⟨rfl, CK.out.below⟩
          · have gv : (v != 0) = true := by simpa using hv0
            clear hvv hv0
            go_wp2_with (
              go_at_call 16
              refine hK.mono ?_
              rintro e' wk ⟨rfl, kk⟩
              have CK := Lib.hid (C5.out.step kk)
              clear hK kk)
            go_ret
            exact ⟨rfl, CK.out.below⟩
    · by_cases hlt : (i : Int) < (len : Int)
      all_goals
        have hi1 := within_c wr n1 0 5 (by omega) (by omega) (by omega)
        have hi2 := within_c wr n2 0 5 (by omega) (by omega) (by omega)
        have hi3 := within_c (wr.alloc (.cells #[.string ka, .string kb, .string kC] 9)) n3 0 2 (by omega) (by omega) (by omega)
        have hi4 := within_c ((wr.alloc (.cells #[.string ka, .string kb, .string kC] 9)).alloc (.cells #[.string ka, .string kb, .string kC, .string kN] 9)) n4 0 3 (by omega) (by omega) (by omega)
        have HI := Lib.hid (show i ≤ 30 by omega)
        go_upto_region 13 with (first
          | (go_at_call 12
             refine hi1.mono ?_
             rintro e w1 ⟨d0, hd0, hd1, rfl, rfl⟩
             clear hi1)
          | (go_at_call 12
             refine hi2.mono ?_
             rintro e w1 ⟨e0, he0, he1, rfl, rfl⟩
             clear hi2)
          | (go_at_call 12
             refine hi3.mono ?_
             rintro e w1 ⟨m3, h30', h31', rfl, rfl⟩
             obtain ⟨sa, hsa, cz3⟩ := built_at3 wr ka kb kC m3 h30' h31'
             clear hi3)
          | (go_at_call 12
             refine hi4.mono ?_
             rintro e w1 ⟨m4, h40', h41', rfl, rfl⟩
             obtain ⟨sb, hsb, cz4⟩ := built_at4 (wr.alloc (.cells #[.string ka, .string kb, .string kC] 9)) ka kb kC kN m4 h40' h41'
             rw [show (wr.alloc (.cells #[.string ka, .string kb, .string kC] 9)).heap.size = wr.heap.size + 1 by simp] at cz4
             clear hi4))
        have C2 := Lib.hid ((C.out.1.step (Keep.alloc wr (.cells #[.string ka, .string kb, .string kC] 9) _)).step (Keep.alloc (wr.alloc (.cells #[.string ka, .string kb, .string kC] 9)) (.cells #[.string ka, .string kb, .string kC, .string kN] 9) _))
        have hrb : RightIs sb true := by
          rcases hsb with rfl | rfl | rfl | rfl
          · exact right_a
          · exact right_b
          · exact right_kC
          · exact right_kN
        have hra := right_key hsa
        have HR := Lib.hid (And.intro hra hrb)
        generalize (wr.alloc (.cells #[.string ka, .string kb, .string kC] 9)).alloc (.cells #[.string ka, .string kb, .string kC, .string kN] 9) = w2 at *
        have gd : ∃ d, 1 + d0 = d := ⟨_, rfl⟩
        have ge : ∃ e, 1 + e0 = e := ⟨_, rfl⟩
        obtain ⟨d, hd⟩ := gd
        obtain ⟨e, he⟩ := ge
        rw [hd, he]
        clear hd he hd0 hd1 he0 he1 cz3 cz4 hsa hsb hra hrb
        obtain ⟨fm, had, hfm⟩ : ∃ a b, T.find e sb = (a, b) := ⟨_, _, rfl⟩
        obtain ⟨n, ok, hfn⟩ : ∃ a b, T.find d sa = (a, b) := ⟨_, _, rfl⟩
        obtain ⟨⟨p0, p1, p2, p3, p4, p5, p6⟩, pb, hp⟩ : ∃ p b, T.stat d = (p, b) := ⟨_, _, rfl⟩
        obtain ⟨⟨q0, q1, q2, q3, q4, q5, q6⟩, qb, hq⟩ : ∃ p b, T.stat e = (p, b) := ⟨_, _, rfl⟩
        obtain ⟨U, v, hU⟩ : ∃ U v, T.move true d sa e sb = (U, v) := ⟨_, _, rfl⟩
        have hF1 := tfind_c C2.out.tab e sb
        have hF2 := tfind_c C2.out.tab d sa
        rw [hfm] at hF1
        rw [hfn] at hF2
        have hS1 := stat_p C2.out (by have := HI.out; omega) d hp
        simp only at hS1
        have HV := Lib.hid (And.intro hfm (And.intro hfn (And.intro hp (And.intro hq hU))))
        clear hfm hfn hp hq hU
        go_upto_region 18 with (first
          | (go_at_call 13
             refine hF1.mono ?_
             rintro e' w1 ⟨rfl, rfl⟩
             clear hF1)
          | (go_at_call 13
             refine hF2.mono ?_
             rintro e' w1 ⟨rfl, rfl⟩
             clear hF2)
          | (go_at_call 14
             refine (hS1 _ (Keep.refl _ _)).mono ?_
             rintro e' wq1 ⟨rfl, k1⟩
             have C3 := Lib.hid ((C2.out.step k1).step (Keep.alloc wq1 (.cells #[.int .i64 p0, .int .i64 p1, .int .i64 p2, .int .i64 p3, .int .i64 p4, .int .i64 p5, .int .i64 p6] 28) _))
             have z1 : w2.heap.size ≤ wq1.heap.size := k1.size
             have Y1 := Lib.hid (And.intro (StatAt.mk (w := wq1.alloc (.cells #[.int .i64 p0, .int .i64 p1, .int .i64 p2, .int .i64 p3, .int .i64 p4, .int .i64 p5, .int .i64 p6] 28)) (b := wq1.heap.size) (x := ⟨p0, p1, p2, p3, p4, p5, p6⟩) (heap_alloc_eq wq1 _)) z1)
             have hS2 := stat_p C3.out (by have := HI.out; omega) e HV.out.2.2.2.1
             simp only at hS2
             clear hS1 k1 z1)
          | (go_at_call 14
             refine (hS2 _ (Keep.refl _ _)).mono ?_
             rintro e' wq2 ⟨rfl, k2⟩
             have C4 := Lib.hid ((C3.out.step k2).step (Keep.alloc wq2 (.cells #[.int .i64 q0, .int .i64 q1, .int .i64 q2, .int .i64 q3, .int .i64 q4, .int .i64 q5, .int .i64 q6] 28) _))
             have z2 : wq1.heap.size < wq2.heap.size := by have h9 := k2.size; rw [show (wq1.alloc (.cells #[.int .i64 p0, .int .i64 p1, .int .i64 p2, .int .i64 p3, .int .i64 p4, .int .i64 p5, .int .i64 p6] 28)).heap.size = wq1.heap.size + 1 by simp] at h9; omega
             have Y2 := Lib.hid (And.intro (StatAt.mk ((Keep.alloc wq2 (.cells #[.int .i64 q0, .int .i64 q1, .int .i64 q2, .int .i64 q3, .int .i64 q4, .int .i64 q5, .int .i64 q6] 28) (fun _ => False)).get (k2.get Y1.out.1.blk (fun q => q)) (fun q => q))) (And.intro (StatAt.mk (w := wq2.alloc (.cells #[.int .i64 q0, .int .i64 q1, .int .i64 q2, .int .i64 q3, .int .i64 q4, .int .i64 q5, .int .i64 q6] 28)) (b := wq2.heap.size) (x := ⟨q0, q1, q2, q3, q4, q5, q6⟩) (heap_alloc_eq wq2 _)) z2))
             have hmv := move_t C4.out (by have := HI.out; omega) HR.out.2 d sa e
             rw [HV.out.2.2.2.2] at hmv
             clear hS2 k2 z2)
          | (go_at_call 15
             refine (hmv _ (Keep.refl _ _)).mono ?_
             rintro e' w5 ⟨rfl, s5, c5, t5⟩
             have hs4 : ∀ b, s.has b → b < w2.heap.size := fun b q => by
               cases hq : s.tag b with
               | none => exact absurd hq q
               | some g => exact C2.out.tab.lt b g hq
             have y1 := t5.keep.get Y2.out.1.blk (fun q => by have := hs4 _ q; have := Y1.out.2; omega)
             have y2 := t5.keep.get Y2.out.2.1.blk (fun q => by have := hs4 _ q; have := Y1.out.2; have := Y2.out.2.2; omega)
             have Y5 := Lib.hid (And.intro (StatAt.mk (x := ⟨p0, p1, p2, p3, p4, p5, p6⟩) y1) (StatAt.mk (x := ⟨q0, q1, q2, q3, q4, q5, q6⟩) y2))
             have z5 : ∀ b, s5.has b → ¬ b = wq1.heap.size ∧ ¬ b = wq2.heap.size := fun b q => by
               have zz : (wq2.alloc (.cells #[.int .i64 q0, .int .i64 q1, .int .i64 q2, .int .i64 q3, .int .i64 q4, .int .i64 q5, .int .i64 q6] 28)).heap.size = wq2.heap.size + 1 := by simp
               rcases t5.new b q with z | z
               · have := hs4 _ z; have := Y1.out.2; have := Y2.out.2.2; omega
               · have := Y2.out.2.2; omega
             have Z5 := Lib.hid z5
             have C5 := Lib.hid (show TCur w w5 tb s5 U 4 _ from c5)
             clear hmv t5 c5 hs4 y1 y2 z5))
        have hK := tknown_c w5
        by_cases hvv : v = 0 ∧ had = false
        · obtain ⟨rfl, rfl⟩ := hvv
          have hm2 : (T.move true d sa e sb).2 = 0 := by rw [HV.out.2.2.2.2]
          have hz2 : (T.find e sb).2 = false := by rw [HV.out.1]
          have D := undone C.out.1.good.ok (abc_len C.out.2 C.out.1.good.ok) hm2 hz2
          have D1 := D.found
          have D2 := D.there
          have D3 := D.gone
          have D4 := D.back
          have D5 := D.again
          have D6 := D.statD
          have D7 := D.statE
          rw [HV.out.2.2.2.2] at D2 D3 D4 D5 D6 D7
          rw [HV.out.2.1] at D1 D2 D5
          rw [HV.out.2.2.1] at D6
          rw [HV.out.2.2.2.1] at D7
          simp only at D1 D2 D3 D4 D5 D6 D7
          subst D1
          obtain ⟨V, v9, hV⟩ : ∃ V v, U.move true e sb d sa = (V, v) := ⟨_, _, rfl⟩
          rw [hV] at D4 D5 D6 D7
          simp only at D4 D5 D6 D7
          subst D4
          obtain ⟨gx, gb, hgx⟩ : ∃ a b, U.find d sa = (a, b) := ⟨_, _, rfl⟩
          rw [hgx] at D3
          simp only at D3
          subst D3
          have hG1 := tfind_c C5.out.tab e sb
          rw [D2] at hG1
          have hG2 := tfind_c C5.out.tab d sa
          rw [hgx] at hG2
          have hmb := move_t C5.out (by have := HI.out; omega) HR.out.1 e sb d
          rw [hV] at hmb
          have HD := Lib.hid (And.intro D5 (And.intro D6 D7))
          clear D D2 D5 D6 D7 hV hgx hm2 hz2 hK
          have gnn : (n != n) = false := by simp
          go_upto_region 28 with (first
            | (go_at_call 13
               refine hG1.mono ?_
               rintro e' w1 ⟨rfl, rfl⟩
               clear hG1)
            | (go_at_call 13
               refine hG2.mono ?_
               rintro e' w1 ⟨rfl, rfl⟩
               clear hG2)
            | (go_at_call 15
               refine (hmb _ (Keep.refl _ _)).mono ?_
               rintro e' w6 ⟨rfl, s6, c6, t6⟩
               have y1 := t6.keep.get Y5.out.1.blk (fun q => (Z5.out _ q).1 rfl)
               have y2 := t6.keep.get Y5.out.2.blk (fun q => (Z5.out _ q).2 rfl)
               have Y6 := Lib.hid (And.intro (StatAt.mk (x := ⟨p0, p1, p2, p3, p4, p5, p6⟩) y1) (StatAt.mk (x := ⟨q0, q1, q2, q3, q4, q5, q6⟩) y2))
               have C6 := Lib.hid (show TCur w w6 tb s6 V 4 _ from c6)
               have hS3 := stat_p C6.out (by have := HI.out; omega) d HD.out.2.1
               simp only at hS3
               clear hmb t6 c6 y1 y2)
            | (go_at_call 14
               refine (hS3 _ (Keep.refl _ _)).mono ?_
               rintro e' wq3 ⟨rfl, k3⟩
               have kz : Keep w6 (wq3.alloc (.cells #[.int .i64 p0, .int .i64 p1, .int .i64 p2, .int .i64 p3, .int .i64 p4, .int .i64 p5, .int .i64 p6] 28)) (fun _ => False) := k3.allocNew _
               have C7 := Lib.hid (C6.out.step kz)
               have Y7 := Lib.hid (And.intro (StatAt.mk (kz.get Y6.out.1.blk (fun q => q))) (And.intro (StatAt.mk (kz.get Y6.out.2.blk (fun q => q))) (StatAt.mk (w := wq3.alloc (.cells #[.int .i64 p0, .int .i64 p1, .int .i64 p2, .int .i64 p3, .int .i64 p4, .int .i64 p5, .int .i64 p6] 28)) (b := wq3.heap.size) (x := ⟨p0, p1, p2, p3, p4, p5, p6⟩) (heap_alloc_eq wq3 _))))
               have hS4 := stat_p C7.out (by have := HI.out; omega) e HD.out.2.2
               simp only at hS4
               clear hS3 k3 kz)
            | (go_at_call 14
               refine (hS4 _ (Keep.refl _ _)).mono ?_
               rintro e' wq4 ⟨rfl, k4⟩
               have kz : Keep _ (wq4.alloc (.cells #[.int .i64 q0, .int .i64 q1, .int .i64 q2, .int .i64 q3, .int .i64 q4, .int .i64 q5, .int .i64 q6] 28)) (fun _ => False) := k4.allocNew _
               have C8 := Lib.hid (C7.out.step kz)
               obtain ⟨a0, a1, a2, a3, a4, a5, a6⟩ := (StatAt.mk (kz.get Y7.out.1.blk (fun q => q))).cells
               obtain ⟨b0, b1, b2, b3, b4, b5, b6⟩ := (StatAt.mk (kz.get Y7.out.2.1.blk (fun q => q))).cells
               obtain ⟨i0, i1, i2, i3, i4, i5, i6⟩ := (StatAt.mk (kz.get Y7.out.2.2.blk (fun q => q))).cells
               obtain ⟨j0, j1, j2, j3, j4, j5, j6⟩ := (StatAt.mk (w := wq4.alloc (.cells #[.int .i64 q0, .int .i64 q1, .int .i64 q2, .int .i64 q3, .int .i64 q4, .int .i64 q5, .int .i64 q6] 28)) (b := wq4.heap.size) (x := ⟨q0, q1, q2, q3, q4, q5, q6⟩) (heap_alloc_eq wq4 _)).cells
               simp only at a0 a1 a2 a3 a4 a5 a6 b0 b1 b2 b3 b4 b5 b6 i0 i1 i2 i3 i4 i5 i6 j0 j1 j2 j3 j4 j5 j6
               have hF9 := tfind_c C8.out.tab d sa
               rw [HD.out.1] at hF9
               have hK := tknown_c (wq4.alloc (.cells #[.int .i64 q0, .int .i64 q1, .int .i64 q2, .int .i64 q3, .int .i64 q4, .int .i64 q5, .int .i64 q6] 28))
               clear hS4 k4 kz)
            | (go_at_call 13
               refine hF9.mono ?_
               rintro e' w1 ⟨rfl, rfl⟩
               clear hF9))
          go_wp2_with (
            go_at_call 16
            refine hK.mono ?_
            rintro e' wk ⟨rfl, kk⟩
            have CK := Lib.hid (C8.out.step kk)
            clear hK kk)
          go_ret
          exact ⟨rfl, CK.out.below⟩
        · by_cases hv0 : v = 0
          · subst hv0
            have hh : had = true := by
              cases had with
              | true => rfl
              | false => exact absurd ⟨rfl, rfl⟩ hvv
            subst hh
            clear hvv
            go_wp2_with (
              go_at_call 16
              refine hK.mono ?_
              rintro e' wk ⟨rfl, kk⟩
              have CK := Lib.hid (C5.out.step kk)
              clear hK kk)
            go_ret
            exact ⟨rfl, CK.out.below⟩
          · have gv : (v != 0) = true := by simpa using hv0
            clear hvv hv0
            go_wp2_with (
              go_at_call 16
              refine hK.mono ?_
              rintro e' wk ⟨rfl, kk⟩
              have CK := Lib.hid (C5.out.step kk)
              clear hK kk)
            go_ret
            exact ⟨rfl, CK.out.below⟩

end Go.Proofs.Ytnjfcedkfobbcaa
