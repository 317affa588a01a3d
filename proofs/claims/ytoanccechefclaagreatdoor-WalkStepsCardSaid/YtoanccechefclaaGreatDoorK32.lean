/-
  Parts of the walk's proof: WalkG, PlayS, Args. (joined by pack.py)
-/
import Derived.WalkMore
import Derived.SliceStrings
import Derived.Deep.Grids
import Derived.Test.YtoanccechefclaaGreatDoorK04
import Derived.Test.YtoanccechefclaaGreatDoorK08
import Derived.Test.YtoanccechefclaaGreatDoorK24
import Derived.Test.YtoanccechefclaaGreatDoorK27
import Derived.Test.YtoanccechefclaaGreatDoorK31
set_option linter.unusedSectionVars false
set_option linter.unusedSimpArgs false
set_option linter.unusedVariables false
namespace Go.Proofs.YtoanccechefclaaGreatDoor
open Go Go.RowKit Go.Shelf
set_option maxRecDepth 100000
attribute [local go_sem] Oper.semAt_some
theorem KNew.kw {w w' : World} {kb wb tb mb : Nat} {s : TShape} {S : Nat → Prop} {E : WkE} {k : KV} (h : KNew w w' kb wb tb mb E k) (he : EnvAt w tb mb s S E) (ht : ∀ n, (blOf (E.T.textOf n)).length ≤ 1000) : KW w' kb wb tb mb s S E k := by
  have h1 : ∀ b, s.has b → b < w.heap.size := fun b q => by
    cases hg : s.tag b with
    | none => exact absurd hg q
    | some g => exact he.tree.lt b g hg
  have h2 := he.tab.lt
  have h3 := h.kb0
  have h4 := h.wb0
  exact ⟨he.aside h.keep, ht, h.at_, fun q => by have := h1 _ q; omega, fun q => by have := h2 _ q; omega, fun q => by have := h1 _ q; omega, fun q => by have := h2 _ q; omega, h.ne⟩
theorem KW.turn {w w' : World} {kb wb tb mb : Nat} {s : TShape} {S : Nat → Prop} {E : WkE} {k k' : KV} (h : KW w kb wb tb mb s S E k) (K : Keep w w' (fun b => b = wb ∨ b = kb)) (h2 : KAt w' kb wb tb mb E k') : KW w' kb wb tb mb s S E k' :=
  ⟨h.env.keep K (fun b q z => by rcases z with z | z; exact h.w1 (by rw [← z]; exact q); exact h.k1 (by rw [← z]; exact q)) (fun b q z => by rcases z with z | z; exact h.w2 (by rw [← z]; exact q); exact h.k2 (by rw [← z]; exact q)), h.texts, h2, h.w1, h.w2, h.k1, h.k2, h.ne⟩
def krank : KV → Nat
  | .on v => wrank v + 1
  | .off _ _ _ => 0
def kfine : KV → Prop
  | .on v => 0 ≤ v.links
  | .off _ _ _ => True
theorem kstep_end {E : WkE} {k : KV} (h : kfine k) : kend E (kstep E k) = kend E k := by
  cases k with
  | off f e n => rfl
  | on v =>
    show kend E (kpart E v) = kfin E v
    cases hp : kpart E v with
    | on v' => exact (kfin_on h hp).symm
    | off f e n => exact (kfin_off hp).symm
theorem kstep_rank {E : WkE} {k : KV} {v' : WkV} (h : kfine k) (hs : kstep E k = .on v') : krank (kstep E k) < krank k := by
  cases k with
  | off f e n => simp [kstep] at hs
  | on v =>
    have hs' : kpart E v = .on v' := hs
    rw [hs]
    obtain ⟨h1, _⟩ := kpart_rank h hs'
    show wrank v' + 1 < wrank v + 1
    omega
theorem walk_res {W : World} {b : Nat} {f : FoundV} {e n : Int} {A : Array Value} (z : W.heap[b]? = some (.cells (foundC f) 45 (0, 0))) (h2 : A.getD 14 undef = .pointer (some ⟨b, 0, none⟩)) (h3 : A.getD 15 undef = .int .i64 e) (h4 : A.getD 16 undef = .int .i64 n) :
    (results Tryz.f54 A).run Tryz.prog W = .ok (.tuple #[.agg (foundC f), .int .i64 e, .int .i64 n]) W := by
  obtain ⟨⟨y0, y1, y2, y3, y4, y5, y6⟩, -⟩ := cells7 z
  have h2' : A[14]?.getD undef = .pointer (some ⟨b, 0, none⟩) := by simpa using h2
  have h3' : A[15]?.getD undef = .int .i64 e := by simpa using h3
  have h4' : A[16]?.getD undef = .int .i64 n := by simpa using h4
  simp [results, Tryz.results54, go_sem, h2', h3', h4', y0, y1, y2, y3, y4, y5, y6, foundC]
set_option maxHeartbeats 8000000 in
theorem walk_c {w : World} {tb mb : Nat} {s : TShape} {S : Nat → Prop} {E : WkE} (h : EnvAt w tb mb s S E) (ht : ∀ n, (blOf (E.T.textOf n)).length ≤ 1000) (hE : E.M.down 0 1 = (E.rm, E.rn)) (fm fn : Int) (path : Bl) {f : FoundV} {e n : Int} (hR : walkP E fm fn path = (f, e, n)) :
    Calls Tryz.prog 54 #[.pointer (some ⟨tb, 0, none⟩), .pointer (some ⟨mb, 0, none⟩), .agg #[.int .i64 0, .int .i64 1], .agg #[.int .i64 fm, .int .i64 fn], .agg #[.int .i64 E.c.uid, .int .i64 E.c.gid], .string (txB path), .bool E.follow] w
      fun r w' => r = .returned (.tuple #[.agg (foundC f), .int .i64 e, .int .i64 n]) ∧ Keep w w' (fun _ => False) := by
  obtain ⟨W1, hW1⟩ : ∃ W1, W1 = (((w.alloc (.cells #[.int .i64 0, .int .i64 1] 38)).alloc (.cells #[.int .i64 fm, .int .i64 fn] 38)).alloc (.cells #[.int .i64 E.c.uid, .int .i64 E.c.gid] 24)).alloc (.cells #[.int .i64 0, .int .i64 0, .string ⟨#[]⟩, .int .i64 0, .int .i64 0, .bool false, .bool false] 45) := ⟨_, rfl⟩
  obtain ⟨k1, b1, b2, b3, b4, z1⟩ := boxes4 w (.cells #[.int .i64 0, .int .i64 1] 38) (.cells #[.int .i64 fm, .int .i64 fn] 38) (.cells #[.int .i64 E.c.uid, .int .i64 E.c.gid] 24) (.cells #[.int .i64 0, .int .i64 0, .string ⟨#[]⟩, .int .i64 0, .int .i64 0, .bool false, .bool false] 45)
  rw [← hW1] at k1 b1 b2 b3 b4 z1
  have hb := Begin_c (h.aside k1) hE fm fn path
  have B := Lib.hid (And.intro k1 (And.intro b1 (And.intro b2 (And.intro b3 (And.intro b4 hW1)))))
  have H := Lib.hid (And.intro h (And.intro ht hR))
  clear h ht hE hR k1 b1 b2 b3 b4 z1 hW1
  go_enter Tryz.func54, Tryz.ntmps54
  go_wp2
  rw [← B.out.2.2.2.2.2]
  go_step3
  have d0 : W1.cell? ⟨w.heap.size, 0, none⟩ = some (.int .i64 0) := by rw [cell_blk B.out.2.1]; rfl
  have d1 : W1.cell? ⟨w.heap.size, 1, none⟩ = some (.int .i64 1) := by rw [cell_blk B.out.2.1]; rfl
  have d2 : W1.cell? ⟨w.heap.size + 1, 0, none⟩ = some (.int .i64 fm) := by rw [cell_blk B.out.2.2.1]; rfl
  have d3 : W1.cell? ⟨w.heap.size + 1, 1, none⟩ = some (.int .i64 fn) := by rw [cell_blk B.out.2.2.1]; rfl
  have d4 : W1.cell? ⟨w.heap.size + 1 + 1, 0, none⟩ = some (.int .i64 E.c.uid) := by rw [cell_blk B.out.2.2.2.1]; rfl
  have d5 : W1.cell? ⟨w.heap.size + 1 + 1, 1, none⟩ = some (.int .i64 E.c.gid) := by rw [cell_blk B.out.2.2.2.1]; rfl
  go_wp2_with (
    go_at_call 60
    refine hb.mono ?_
    rintro r w2 ⟨kb, wb, rfl, hn⟩
    have N2 := Lib.hid hn
    clear hn hb)
  go_step3
  go_wp2
  clear d0 d1 d2 d3 d4 d5
  obtain ⟨fb, hfb⟩ : ∃ fb, w.heap.size + 1 + 1 + 1 = fb := ⟨_, rfl⟩
  rw [hfb]
  have hfl : w.heap.size ≤ fb := by omega
  have hF1 := B.out.2.2.2.2.1
  rw [hfb] at hF1
  have hf1 := lt_of_blk hF1
  have A0 : Hid (kend E (kbegin E fm fn path) = (f, e, n) ∧ kfine (kbegin E fm fn path) ∧ KW w2 kb wb tb mb s S E (kbegin E fm fn path) ∧ Keep w w2 (fun _ => False) ∧ w2.heap[fb]? = some (.cells #[.int .i64 0, .int .i64 0, .string ⟨#[]⟩, .int .i64 0, .int .i64 0, .bool false, .bool false] 45 (0, 0)) ∧ fb < kb ∧ fb < wb ∧ w.heap.size ≤ kb ∧ w.heap.size ≤ wb ∧ w.heap.size ≤ fb) := by
    have hn := N2.out
    have h3 := hn.kb0
    have h4 := hn.wb0
    have h5 := B.out.1.size
    refine Lib.hid ⟨H.out.2.2, ?_, hn.kw (H.out.1.aside B.out.1) H.out.2.1, B.out.1.aside hn.keep, hn.keep.get hF1 (fun q => q), by omega, by omega, by omega, by omega, hfl⟩
    unfold kbegin
    split
    · trivial
    · split
      · trivial
      · exact Int.le_refl 0
  clear hfb hF1 hf1 hfl N2 B
  go_loopg [] (krank (kbegin E fm fn path)) (fun g wr => ∃ k, g = krank k ∧ kend E k = (f, e, n) ∧ kfine k ∧ KW wr kb wb tb mb s S E k ∧ Keep w wr (fun _ => False) ∧ wr.heap[fb]? = some (.cells #[.int .i64 0, .int .i64 0, .string ⟨#[]⟩, .int .i64 0, .int .i64 0, .bool false, .bool false] 45 (0, 0)))
  case atStart => exact ⟨_, rfl, A0.out.1, A0.out.2.1, A0.out.2.2.1, A0.out.2.2.2.1, A0.out.2.2.2.2.1⟩
  case round =>
    obtain ⟨k, rfl, hke, hkf, hkw, hkeep, hfb⟩ := hrel
    have hp := Part_c hkw
    have hse := kstep_end (E := E) hkf
    rw [hke] at hse
    have C := Lib.hid (And.intro hkf (And.intro hkw (And.intro hkeep (And.intro hfb hse))))
    have hz1 : ¬ fb = wb := by have := A0.out.2.2.2.2.2.2.1; omega
    have hz2 : ¬ fb = kb := by have := A0.out.2.2.2.2.2.1; omega
    clear hke hkf hkw hkeep hfb hse
    obtain ⟨k2, hk2⟩ : ∃ k2, kstep E k = k2 := ⟨_, rfl⟩
    rw [hk2] at hp
    unfold kpartB at hp
    have HK := Lib.hid hk2
    clear hk2
    cases k2 with
    | on v' =>
      simp only at hp
      go_wp2_with (
        go_at_call 61
        refine hp.mono ?_
        rintro r w4 ⟨rfl, h4, k4⟩
        have N4 := Lib.hid (And.intro h4 k4)
        clear hp h4 k4)
      go_roundg (krank (.on v'))
      case measure =>
        have := kstep_rank C.out.1 HK.out
        rw [HK.out] at this
        exact this
      case rel =>
        have hse := C.out.2.2.2.2
        rw [HK.out] at hse
        refine ⟨.on v', rfl, hse, N4.out.1.2.2.l0, C.out.2.1.turn N4.out.2 N4.out.1, C.out.2.2.1.trans N4.out.2 (fun b q => .inr (by have := A0.out.2.2.2.2.2.2.2; rcases q with q | q <;> omega)), N4.out.2.get C.out.2.2.2.1 (fun q => by rcases q with q | q; exact hz1 q; exact hz2 q)⟩
    | off f2 e2 n2 =>
      simp only at hp
      have hse := C.out.2.2.2.2
      rw [HK.out] at hse
      have hse' : (f2, e2, n2) = (f, e, n) := hse
      simp only [Prod.mk.injEq] at hse'
      obtain ⟨rfl, rfl, rfl⟩ := hse'
      clear hse
      go_upto_region 3 with (
        go_at_call 61
        refine hp.mono ?_
        rintro r w4 ⟨rfl, ⟨h4, c4, g4, g5⟩, k4⟩
        have hb4 := k4.get C.out.2.2.2.1 (fun q => by rcases q with q | q; exact hz1 q; exact hz2 q)
        obtain ⟨t2, t3, t4, t5, t6, t7, t8, t9⟩ := kbCells2 h4
        obtain ⟨c0, c1⟩ := kbCells h4
        obtain ⟨⟨x0, x1, x2, x3, x4, x5, x6⟩, y0, y1, y2, y3, y4, y5, y6⟩ := cells7 hb4
        have z12 : w4.cell? ⟨wb, 12, none⟩ = some (.int .i64 n2) := by rw [cell_blk g4]; exact g5
        have N4 := Lib.hid (And.intro hb4 (C.out.2.2.1.trans k4 (fun b q => .inr (by have := A0.out.2.2.2.2.2.2.2; rcases q with q | q <;> omega))))
        clear hp h4 g4 g5 k4 hb4)
      have hwk : ¬ wb = fb := fun q => hz1 q.symm
      have hkk : ¬ kb = fb := fun q => hz2 q.symm
      go_region
      all_goals
        go_wp2
        rw [Exit.noGoto_ret]
        have s := sets_at [(0, .int .i64 f2.dm), (1, .int .i64 f2.dn), (2, .string f2.last), (3, .int .i64 f2.am), (4, .int .i64 f2.an), (5, .bool f2.has), (6, .bool f2.slash)] N4.out.1
        have k := sets_keep (b := fb) [(0, .int .i64 f2.dm), (1, .int .i64 f2.dn), (2, .string f2.last), (3, .int .i64 f2.am), (4, .int .i64 f2.an), (5, .bool f2.has), (6, .bool f2.slash)] w4
        simp only [sets] at s k
        refine bodyPost_ret (walk_res (f := f2) (e := e2) (n := n2) ((Keep.drew _ (fun _ => False)).get (by simpa [setAll, foundC] using s) (fun q => q)) rfl rfl rfl) rfl ⟨rfl, ?_⟩
        exact (N4.out.2.trans k (fun b q => .inr (by rw [show b = fb from q]; exact A0.out.2.2.2.2.2.2.2.2.2))).drewNew
theorem Walk_res {W : World} {b : Nat} {f : FoundV} {e : Int} {A : Array Value} (z : W.heap[b]? = some (.cells (foundC f) 45 (0, 0))) (h2 : A.getD 14 undef = .pointer (some ⟨b, 0, none⟩)) (h3 : A.getD 15 undef = .int .i64 e) :
    (results Tryz.f16 A).run Tryz.prog W = .ok (.tuple #[.agg (foundC f), .int .i64 e]) W := by
  obtain ⟨⟨y0, y1, y2, y3, y4, y5, y6⟩, -⟩ := cells7 z
  have h2' : A[14]?.getD undef = .pointer (some ⟨b, 0, none⟩) := by simpa using h2
  have h3' : A[15]?.getD undef = .int .i64 e := by simpa using h3
  simp [results, Tryz.results16, go_sem, h2', h3', y0, y1, y2, y3, y4, y5, y6, foundC]
set_option maxHeartbeats 8000000 in
theorem Walk_c {w : World} {tb mb : Nat} {s : TShape} {S : Nat → Prop} {E : WkE} (h : EnvAt w tb mb s S E) (ht : ∀ n, (blOf (E.T.textOf n)).length ≤ 1000) (hE : E.M.down 0 1 = (E.rm, E.rn)) (fm fn : Int) (path : Bl) {f : FoundV} {e n : Int} (hR : walkP E fm fn path = (f, e, n)) :
    Calls Tryz.prog 16 #[.pointer (some ⟨tb, 0, none⟩), .pointer (some ⟨mb, 0, none⟩), .agg #[.int .i64 0, .int .i64 1], .agg #[.int .i64 fm, .int .i64 fn], .agg #[.int .i64 E.c.uid, .int .i64 E.c.gid], .string (txB path), .bool E.follow] w
      fun r w' => r = .returned (.tuple #[.agg (foundC f), .int .i64 e]) ∧ Keep w w' (fun _ => False) := by
  obtain ⟨W1, hW1⟩ : ∃ W1, W1 = (((w.alloc (.cells #[.int .i64 0, .int .i64 1] 38)).alloc (.cells #[.int .i64 fm, .int .i64 fn] 38)).alloc (.cells #[.int .i64 E.c.uid, .int .i64 E.c.gid] 24)).alloc (.cells #[.int .i64 0, .int .i64 0, .string ⟨#[]⟩, .int .i64 0, .int .i64 0, .bool false, .bool false] 45) := ⟨_, rfl⟩
  obtain ⟨k1, b1, b2, b3, b4, z1⟩ := boxes4 w (.cells #[.int .i64 0, .int .i64 1] 38) (.cells #[.int .i64 fm, .int .i64 fn] 38) (.cells #[.int .i64 E.c.uid, .int .i64 E.c.gid] 24) (.cells #[.int .i64 0, .int .i64 0, .string ⟨#[]⟩, .int .i64 0, .int .i64 0, .bool false, .bool false] 45)
  rw [← hW1] at k1 b1 b2 b3 b4 z1
  have hb := walk_c (h.aside k1) ht hE fm fn path hR
  simp only [foundC] at hb
  have B := Lib.hid (And.intro k1 (And.intro b1 (And.intro b2 (And.intro b3 (And.intro b4 hW1)))))
  clear h ht hE hR k1 b1 b2 b3 b4 z1 hW1
  go_enter Tryz.func16, Tryz.ntmps16
  go_upto_region 1 with (fail)
  rw [← B.out.2.2.2.2.2]
  have d0 : W1.cell? ⟨w.heap.size, 0, none⟩ = some (.int .i64 0) := by rw [cell_blk B.out.2.1]; rfl
  have d1 : W1.cell? ⟨w.heap.size, 1, none⟩ = some (.int .i64 1) := by rw [cell_blk B.out.2.1]; rfl
  have d2 : W1.cell? ⟨w.heap.size + 1, 0, none⟩ = some (.int .i64 fm) := by rw [cell_blk B.out.2.2.1]; rfl
  have d3 : W1.cell? ⟨w.heap.size + 1, 1, none⟩ = some (.int .i64 fn) := by rw [cell_blk B.out.2.2.1]; rfl
  have d4 : W1.cell? ⟨w.heap.size + 1 + 1, 0, none⟩ = some (.int .i64 E.c.uid) := by rw [cell_blk B.out.2.2.2.1]; rfl
  have d5 : W1.cell? ⟨w.heap.size + 1 + 1, 1, none⟩ = some (.int .i64 E.c.gid) := by rw [cell_blk B.out.2.2.2.1]; rfl
  go_upto_region 2 with (
    go_at_call 54
    refine hb.mono ?_
    rintro r w2 ⟨rfl, k2⟩
    have N2 := Lib.hid k2
    clear k2 hb)
  have ka := Keep.alloc w2 (.cells (foundC f) 45) (fun _ => False)
  have ba := heap_alloc_eq w2 (.cells (foundC f) 45)
  obtain ⟨W3, hW3⟩ : ∃ W3, W3 = w2.alloc (.cells (foundC f) 45) := ⟨_, rfl⟩
  rw [← hW3] at ka ba
  simp only [foundC] at hW3
  rw [← hW3]
  have k13 : Keep W1 W3 (fun _ => False) := N2.out.aside ka
  have hb4 := k13.get B.out.2.2.2.2.1 (fun q => q)
  obtain ⟨⟨x0, x1, x2, x3, x4, x5, x6⟩, y0, y1, y2, y3, y4, y5, y6⟩ := cells7 hb4
  obtain ⟨⟨p0, p1, p2, p3, p4, p5, p6⟩, -⟩ := cells7 ba
  have hlt : w.heap.size + 1 + 1 + 1 < w2.heap.size := by have h8 := lt_of_blk B.out.2.2.2.2.1; have h9 := N2.out.size; omega
  have hne : ¬ w2.heap.size = w.heap.size + 1 + 1 + 1 := by omega
  have hne2 : ¬ w.heap.size + 1 + 1 + 1 = w2.heap.size := by omega
  have C := Lib.hid (And.intro (B.out.1.aside k13) hb4)
  clear ka ba hW3 k13 hb4 hlt d0 d1 d2 d3 d4 d5
  obtain ⟨fb, hfb⟩ : ∃ fb, w.heap.size + 1 + 1 + 1 = fb := ⟨_, rfl⟩
  have hfl : w.heap.size ≤ fb := by omega
  have HF := Lib.hid hfl
  rw [hfb] at C x0 x1 x2 x3 x4 x5 x6 y0 y1 y2 y3 y4 y5 y6 hne hne2 ⊢
  clear hfb hfl B
  go_wp2
  have s := sets_at [(0, .int .i64 f.dm), (1, .int .i64 f.dn), (2, .string f.last), (3, .int .i64 f.am), (4, .int .i64 f.an), (5, .bool f.has), (6, .bool f.slash)] C.out.2
  have k := sets_keep (b := fb) [(0, .int .i64 f.dm), (1, .int .i64 f.dn), (2, .string f.last), (3, .int .i64 f.am), (4, .int .i64 f.an), (5, .bool f.has), (6, .bool f.slash)] W3
  simp only [sets] at s k
  refine bodyPost_ret (Walk_res (f := f) (e := e) (b := fb) (by simpa [setAll, foundC] using s) rfl rfl) rfl ⟨rfl, ?_⟩
  exact C.out.1.trans k (fun b q => .inr (by rw [show b = fb from q]; exact HF.out))
set_option maxHeartbeats 8000000 in
theorem Steps_c {w : World} {tb mb : Nat} {s : TShape} {S : Nat → Prop} {E : WkE} (h : EnvAt w tb mb s S E) (ht : ∀ n, (blOf (E.T.textOf n)).length ≤ 1000) (hE : E.M.down 0 1 = (E.rm, E.rn)) (fm fn : Int) (path : Bl) {f : FoundV} {e n : Int} (hR : walkP E fm fn path = (f, e, n)) :
    Calls Tryz.prog 22 #[.pointer (some ⟨tb, 0, none⟩), .pointer (some ⟨mb, 0, none⟩), .agg #[.int .i64 0, .int .i64 1], .agg #[.int .i64 fm, .int .i64 fn], .agg #[.int .i64 E.c.uid, .int .i64 E.c.gid], .string (txB path), .bool E.follow] w
      fun r w' => r = .returned (.int .i64 n) ∧ Keep w w' (fun _ => False) := by
  obtain ⟨W1, hW1⟩ : ∃ W1, W1 = ((w.alloc (.cells #[.int .i64 0, .int .i64 1] 38)).alloc (.cells #[.int .i64 fm, .int .i64 fn] 38)).alloc (.cells #[.int .i64 E.c.uid, .int .i64 E.c.gid] 24) := ⟨_, rfl⟩
  obtain ⟨k1, b1, b2, b3, z1⟩ := boxes3 w (.cells #[.int .i64 0, .int .i64 1] 38) (.cells #[.int .i64 fm, .int .i64 fn] 38) (.cells #[.int .i64 E.c.uid, .int .i64 E.c.gid] 24)
  rw [← hW1] at k1 b1 b2 b3 z1
  have hb := walk_c (h.aside k1) ht hE fm fn path hR
  simp only [foundC] at hb
  have B := Lib.hid (And.intro k1 (And.intro b1 (And.intro b2 (And.intro b3 hW1))))
  clear h ht hE hR k1 b1 b2 b3 z1 hW1
  go_enter Tryz.func22, Tryz.ntmps22
  go_upto_region 1 with (fail)
  rw [← B.out.2.2.2.2]
  have d0 : W1.cell? ⟨w.heap.size, 0, none⟩ = some (.int .i64 0) := by rw [cell_blk B.out.2.1]; rfl
  have d1 : W1.cell? ⟨w.heap.size, 1, none⟩ = some (.int .i64 1) := by rw [cell_blk B.out.2.1]; rfl
  have d2 : W1.cell? ⟨w.heap.size + 1, 0, none⟩ = some (.int .i64 fm) := by rw [cell_blk B.out.2.2.1]; rfl
  have d3 : W1.cell? ⟨w.heap.size + 1, 1, none⟩ = some (.int .i64 fn) := by rw [cell_blk B.out.2.2.1]; rfl
  have d4 : W1.cell? ⟨w.heap.size + 1 + 1, 0, none⟩ = some (.int .i64 E.c.uid) := by rw [cell_blk B.out.2.2.2.1]; rfl
  have d5 : W1.cell? ⟨w.heap.size + 1 + 1, 1, none⟩ = some (.int .i64 E.c.gid) := by rw [cell_blk B.out.2.2.2.1]; rfl
  go_wp2_with (
    go_at_call 54
    refine hb.mono ?_
    rintro r w2 ⟨rfl, k2⟩
    have N2 := Lib.hid (B.out.1.aside k2)
    clear k2 hb)
  go_ret
  exact ⟨rfl, N2.out.aside (Keep.alloc _ _ _)⟩
end Go.Proofs.YtoanccechefclaaGreatDoor
namespace Go.Proofs.YtoanccechefclaaGreatDoor
open Go Go.RowKit Go.Shelf
set_option maxRecDepth 100000
def TxtOk (t : ByteArray) : Prop := TextOk (blOf t)
theorem txt_empty : TxtOk ByteArray.empty := by unfold TxtOk TextOk; decide +kernel
def TxAll (L : List Nod) : Prop := ∀ x ∈ L, TxtOk x.2.text
section
variable {T : TreeV} {L : List Nod}
theorem TxAll.set (h : TxAll L) {n : Int} {x : NodeV} (hx : TxtOk x.text) : TxAll (aset L n x) := fun y hy => by
  rcases mem_aset_any hy with rfl | q
  · exact hx
  · exact h y q
theorem TxAll.del (h : TxAll L) (n : Int) : TxAll (adel L n) := fun y hy => h y (mem_adel_any hy)
theorem TxAll.get (h : TxAll L) {n : Int} {x : NodeV} (hg : aget L n = some x) : TxtOk x.text := h (n, x) (aget_memN hg)
theorem TxAll.drop (h : TxAll T.all) (n : Int) : TxAll (T.drop n).all := by
  unfold TreeV.drop
  split
  · exact h
  · split
    · exact h
    · exact h.del n
theorem TxAll.give (h : TxAll T.all) (d : Int) (s : ByteArray) (n : Int) : TxAll (T.give d s n).all := by
  unfold TreeV.give
  split
  · rename_i dx x h1 h2
    have a1 := h.get h1
    have a2 := h.get h2
    exact (h.set (x := { dx with names := aset dx.names s n }) a1).set (x := { x with links := x.links + 1, up := if x.kind = 1 then d else x.up }) a2
  · exact h
theorem TxAll.lose (h : TxAll T.all) (d : Int) (s : ByteArray) (n : Int) : TxAll (T.loseName d s n).all := by
  unfold TreeV.loseName
  split
  · rename_i dx x h1 h2
    have a1 := h.get h1
    have a2 := h.get h2
    exact (h.set (x := { dx with names := adel dx.names s }) a1).set (x := { x with links := x.links - 1 }) a2
  · exact h
theorem TxAll.take (h : TxAll T.all) (d : Int) (s : ByteArray) (n : Int) : TxAll (T.take d s n).all := by
  unfold TreeV.take
  exact TxAll.drop (T := { T.loseName d s n with turns := T.turns + 1 }) (h.lose d s n) n
theorem TxAll.make (h : TxAll T.all) (r : Bool) (d : Int) (s : ByteArray) (k m u g : Int) {t : ByteArray} (ht : TxtOk t) : TxAll (T.make r d s k m u g t).1.all := by
  unfold TreeV.make
  split
  · exact h
  · split
    · exact h
    · split
      · exact h
      · split
        · exact h
        · split
          · exact h
          · exact TxAll.give (T := T.add k m u g t) (h.set ht) d s _
theorem TxAll.join (h : TxAll T.all) (r : Bool) (d : Int) (s : ByteArray) (n : Int) : TxAll (T.join r d s n).1.all := by
  unfold TreeV.join
  repeat' split
  all_goals first | exact h | exact h.give d s n
theorem TxAll.part (h : TxAll T.all) (d : Int) (s : ByteArray) : TxAll (T.part d s).1.all := by
  unfold TreeV.part
  repeat' split
  all_goals first | exact h | exact h.take _ _ _
theorem TxAll.move (h : TxAll T.all) (r : Bool) (d : Int) (s : ByteArray) (e : Int) (z : ByteArray) : TxAll (T.move r d s e z).1.all := by
  unfold TreeV.move
  repeat' split
  all_goals first | exact h | exact ((h.take _ _ _).lose _ _ _).give _ _ _ | exact (h.lose _ _ _).give _ _ _
theorem TxAll.hold (h : TxAll T.all) (n : Int) : TxAll (T.hold n).1.all := by
  unfold TreeV.hold
  split
  · exact h
  · rename_i x hx
    have a1 := h.get hx
    exact h.set (x := { x with holds := x.holds + 1 }) a1
theorem TxAll.setMode (h : TxAll T.all) (n m : Int) : TxAll (T.setMode n m).1.all := by
  unfold TreeV.setMode
  split
  · exact h
  · rename_i x hx
    have a1 := h.get hx
    exact h.set (x := { x with mode := m }) a1
theorem TxAll.setOwner (h : TxAll T.all) (n u g : Int) : TxAll (T.setOwner n u g).1.all := by
  unfold TreeV.setOwner
  split
  · exact h
  · rename_i x hx
    have a1 := h.get hx
    exact h.set (x := { x with uid := u, gid := g }) a1
theorem TxAll.doV (h : TxAll T.all) (V : MountV) {x : ActV} (hx : TxtOk x.as_) : TxAll (doV T V x).1.all := by
  unfold Proofs.YtoanccechefclaaGreatDoor.doV
  repeat' split
  all_goals first | exact h | exact h.make _ _ _ _ _ _ _ hx | exact h.join _ _ _ _ | exact h.part _ _ | exact h.move _ _ _ _ _ | exact h.setMode _ _ | exact (h.hold _).hold _ | exact h.setOwner _ _ _
theorem TxAll.textOf (h : TxAll T.all) (n : Int) : TextOk (blOf (T.textOf n)) := by
  unfold TreeV.textOf
  split
  · exact txt_empty
  · rename_i x hx
    exact h.get hx
end
theorem doV_turns {T : TreeV} {V : MountV} (x : ActV) (h0 : 0 ≤ V.turns) : 0 ≤ (doV T V x).2.turns ∧ (doV T V x).2.turns ≤ V.turns + 1 ∧ (doV T V x).2.made ≤ V.made + 1 := by
  have hb : 0 ≤ (V.bind x.am x.an x.to_).1.turns ∧ (V.bind x.am x.an x.to_).1.turns ≤ V.turns + 1 ∧ (V.bind x.am x.an x.to_).1.made ≤ V.made + 1 := by
    unfold MountV.bind
    repeat' split
    all_goals exact ⟨by simp only; omega, by simp only; omega, by simp only; omega⟩
  have hu : 0 ≤ (V.unbind x.n).1.turns ∧ (V.unbind x.n).1.turns ≤ V.turns + 1 ∧ (V.unbind x.n).1.made ≤ V.made + 1 := by
    unfold MountV.unbind
    repeat' split
    all_goals exact ⟨by simp only; omega, by simp only; omega, by simp only; omega⟩
  have hs : 0 ≤ V.turns ∧ V.turns ≤ V.turns + 1 ∧ V.made ≤ V.made + 1 := ⟨h0, by omega, by omega⟩
  unfold doV
  repeat' split
  all_goals first | exact hs | exact hb | exact hu
structure PS (W w : World) (tb rb mb qb : Nat) (T : TreeV) (V : MountV) (k : Int) (Zw : World) (Z : Nat → Prop) : Prop where
  ex : ∃ s r S R, PB W w tb s T rb r T mb S V qb R V 20 k Zw Z
  tx : TxAll T.all
  tu : 0 ≤ V.turns ∧ V.turns ≤ k ∧ V.made ≤ k
section
variable {W w w' Zw : World} {Z : Nat → Prop} {tb rb mb qb : Nat} {T : TreeV} {V : MountV} {k k' : Int}
theorem PS.aside (h : PS W w tb rb mb qb T V k Zw Z) (K : Keep w w' (fun _ => False)) : PS W w' tb rb mb qb T V k Zw Z := by
  obtain ⟨⟨s, r, S, R, hB⟩, h2, h3⟩ := h
  exact ⟨⟨s, r, S, R, hB.aside K⟩, h2, h3⟩
theorem PS.more (h : PS W w tb rb mb qb T V k Zw Z) (hk : k ≤ k') : PS W w tb rb mb qb T V k' Zw Z := by
  obtain ⟨⟨s, r, S, R, hB⟩, h2, h3⟩ := h
  exact ⟨⟨s, r, S, R, hB.more hk⟩, h2, h3.1, by omega, by omega⟩
theorem PS.keep (h : PS W w tb rb mb qb T V k Zw Z) : Keep W w (fun _ => False) := by
  obtain ⟨⟨s, r, S, R, hB⟩, h2, h3⟩ := h
  exact hB.t.cur.keep
theorem PS.below (h : PS W w tb rb mb qb T V k Zw Z) : Below W.heap.size W w := h.keep.below (Nat.le_refl _) (fun b q => q.elim)
theorem PS.env (h : PS W w tb rb mb qb T V k Zw Z) (hk : k ≤ 1000000) : ∃ s S, ∀ c follow, EnvAt w tb mb s S (wkE T V c follow) := by
  obtain ⟨⟨s, r, S, R, hB⟩, h2, h3⟩ := h
  exact ⟨s, S, fun c follow => ⟨hB.t.cur.tab, hB.t.cur.small.mono hk, hB.m⟩⟩
theorem PS.zone (h : PS W w tb rb mb qb T V k Zw Z) (K : Keep w w' (fun _ => False)) {Z' : Nat → Prop} (hZ : ∀ b, Z' b → b < w'.heap.size ∧ (Z b ∨ w.heap.size ≤ b ∨ b < W.heap.size)) : PS W w' tb rb mb qb T V k w' Z' := by
  obtain ⟨⟨s, r, S, R, hB⟩, h2, h3⟩ := h
  have hs : ∀ b, s.has b → b < w.heap.size := fun b q => thas_lt hB.t.cur.tab q
  have hr : ∀ b, r.has b → b < w.heap.size := fun b q => rhas_lt hB.t.ref q
  have hS := hB.m.lt
  have hR := hB.q.lt
  obtain ⟨z1, z2, z3, z4, z5, z6, z7, z8, z9, z10, z11⟩ := hB.aside K
  refine ⟨⟨s, r, S, R, ⟨z1, z2, z3, z4, z5, z6, z7, z8, z9, z10, ⟨Keep.refl _ _, fun b q => (hZ b q).1, fun b q => ?_⟩⟩⟩, h2, h3⟩
  rcases (hZ b q).2 with y | y | y
  · exact hB.z.out b y
  · exact ⟨fun x => by have := hs b x; omega, fun x => by have := hr b x; omega, fun x => by have := hS b x; omega, fun x => by have := hR b x; omega⟩
  · exact ⟨fun x => by have := hB.t.cur.new b x; omega, fun x => by have := hB.t.r0 b x; omega, fun x => by have := hB.m0 b x; omega, fun x => by have := hB.q0 b x; omega⟩
theorem PS.zkeep (h : PS W w tb rb mb qb T V k Zw Z) : Keep Zw w (fun b => ¬ Z b) := by
  obtain ⟨⟨s, r, S, R, hB⟩, h2, h3⟩ := h
  exact hB.z.keep
theorem PS.do_ (h : PS W w tb rb mb qb T V k Zw Z) (hk : k ≤ 90000) (x : ActV) (ho : ActOk x) (ht : TxtOk x.as_) :
    Calls Tryz.prog 12 #[.agg (bothC tb mb rb qb), .agg (actC x)] w fun e w' => e = .returned (.bool true) ∧ PS W w' tb rb mb qb (doV T V x).1 (doV T V x).2 (k + 6) Zw Z := by
  obtain ⟨⟨s, r, S, R, hB⟩, h2, h3⟩ := h
  refine (do_c hB hk h3 x ho).mono ?_
  rintro e w' ⟨rfl, s', r', S', R', hB'⟩
  have := doV_turns (T := T) x h3.1
  exact ⟨rfl, ⟨s', r', S', R', hB'⟩, h2.doV V ht, this.1, by omega, by omega⟩
theorem PS.walk (h : PS W w tb rb mb qb T V k Zw Z) (hk : k ≤ 1000000) (c : CredV) (follow : Bool) (fm fn : Int) (path : Bl) {f : FoundV} {e n : Int} (hR : walkP (wkE T V c follow) fm fn path = (f, e, n)) :
    ∀ w1, Keep w w1 (fun _ => False) → Calls Tryz.prog 16 #[.pointer (some ⟨tb, 0, none⟩), .pointer (some ⟨mb, 0, none⟩), .agg #[.int .i64 0, .int .i64 1], .agg #[.int .i64 fm, .int .i64 fn], .agg #[.int .i64 c.uid, .int .i64 c.gid], .string (txB path), .bool follow] w1
      fun r w' => r = .returned (.tuple #[.agg (foundC f), .int .i64 e]) ∧ Keep w1 w' (fun _ => False) := fun w1 K => by
  obtain ⟨s, S, he⟩ := h.env hk
  exact Walk_c ((he c follow).aside K) (fun n => by have := (h.tx.textOf n).1; show (blOf (T.textOf n)).length ≤ 1000; omega) rfl fm fn path hR
theorem PS.steps (h : PS W w tb rb mb qb T V k Zw Z) (hk : k ≤ 1000000) (c : CredV) (follow : Bool) (fm fn : Int) (path : Bl) {f : FoundV} {e n : Int} (hR : walkP (wkE T V c follow) fm fn path = (f, e, n)) :
    ∀ w1, Keep w w1 (fun _ => False) → Calls Tryz.prog 22 #[.pointer (some ⟨tb, 0, none⟩), .pointer (some ⟨mb, 0, none⟩), .agg #[.int .i64 0, .int .i64 1], .agg #[.int .i64 fm, .int .i64 fn], .agg #[.int .i64 c.uid, .int .i64 c.gid], .string (txB path), .bool follow] w1
      fun r w' => r = .returned (.int .i64 n) ∧ Keep w1 w' (fun _ => False) := fun w1 K => by
  obtain ⟨s, S, he⟩ := h.env hk
  exact Steps_c ((he c follow).aside K) (fun n => by have := (h.tx.textOf n).1; show (blOf (T.textOf n)).length ≤ 1000; omega) rfl fm fn path hR
end
section
variable {W W0 w w' : World} {tb rb mb qb xb : Nat} {s : TShape} {r : RShape} {T U : TreeV} {S R : Nat → Prop} {V X : MountV} {bl k : Int}
theorem PB.base {Zw : World} {Z : Nat → Prop} (h : PB W0 w tb s T rb r U mb S V qb R X bl k Zw Z) (K : Keep W W0 (fun _ => False)) : PB W w tb s T rb r U mb S V qb R X bl k Zw Z := by
  have hz := K.size
  exact ⟨⟨⟨h.t.cur.tab, K.aside h.t.cur.keep, fun b q => Nat.le_trans hz (h.t.cur.new b q), h.t.cur.good, h.t.cur.small⟩, h.t.ref, h.t.up, h.t.rgood, h.t.rsmall, h.t.sr, fun b q => Nat.le_trans hz (h.t.r0 b q)⟩, h.m, h.q, h.sm, h.sq, h.rm, h.rq, h.mq, fun b q => Nat.le_trans hz (h.m0 b q), fun b q => Nat.le_trans hz (h.q0 b q), h.z⟩
theorem PB.put {Zw : World} {Z : Nat → Prop} (h : PB W w tb s T rb r U mb S V qb R X bl k Zw Z) (K : Keep w w' (fun b => b = xb)) (h1 : ¬ s.has xb) (h2 : ¬ r.has xb) (h3 : ¬ S xb) (h4 : ¬ R xb) (h5 : W.heap.size ≤ xb) (h6 : ¬ Z xb) : PB W w' tb s T rb r U mb S V qb R X bl k Zw Z :=
  ⟨h.t.set K h1 h2 h5, h.m.keep K (fun b q z => h3 (by rw [← show b = xb from z]; exact q)), h.q.keep K (fun b q z => h4 (by rw [← show b = xb from z]; exact q)), h.sm, h.sq, h.rm, h.rq, h.mq, h.m0, h.q0, ⟨h.z.keep.trans K (fun b q => .inl (by rw [show b = xb from q]; exact h6)), h.z.lt, h.z.out⟩⟩
end
theorem new_res {W : World} {b : Nat} {x0 x1 x2 x3 : Value} {e : Bool} {A : Array Value} (z : W.heap[b]? = some (.cells #[x0, x1, x2, x3] 31 (0, 0))) (h2 : A.getD 0 undef = .pointer (some ⟨b, 0, none⟩)) (h3 : A.getD 1 undef = .bool e) :
    (results Tryz.f11 A).run Tryz.prog W = .ok (.tuple #[.agg #[x0, x1, x2, x3], .bool e]) W := by
  have y0 : W.cell? ⟨b, 0, none⟩ = some x0 := by rw [cell_blk z]; rfl
  have y1 : W.cell? ⟨b, 1, none⟩ = some x1 := by rw [cell_blk z]; rfl
  have y2 : W.cell? ⟨b, 2, none⟩ = some x2 := by rw [cell_blk z]; rfl
  have y3 : W.cell? ⟨b, 3, none⟩ = some x3 := by rw [cell_blk z]; rfl
  have h2' : A[0]?.getD undef = .pointer (some ⟨b, 0, none⟩) := by simpa using h2
  have h3' : A[1]?.getD undef = .bool e := by simpa using h3
  simp [results, Tryz.results11, go_sem, h2', h3', y0, y1, y2, y3]
set_option maxHeartbeats 4000000 in
theorem pnew_c {W w : World} (hK : Keep W w (fun _ => False)) : Calls Tryz.prog 11 #[] w fun e w' => ∃ tb mb rb qb, e = .returned (.tuple #[.agg (bothC tb mb rb qb), .bool true]) ∧ PS W w' tb rb mb qb (TreeV.new 40 20) (MountV.new 1) 1 W (fun _ => False) := by
  have HK := Lib.hid hK
  clear hK
  go_enter Tryz.func11, Tryz.ntmps11
  go_upto_region 1 with (fail)
  obtain ⟨w0, hw0⟩ : ∃ w0, w0 = w.alloc (.cells #[.pointer none, .pointer none, .pointer none, .pointer none] 31) := ⟨_, rfl⟩
  have k0 := Keep.alloc w (.cells #[.pointer none, .pointer none, .pointer none, .pointer none] 31) (fun _ => False)
  have b0 := heap_alloc_eq w (.cells #[.pointer none, .pointer none, .pointer none, .pointer none] 31)
  rw [← hw0] at k0 b0 ⊢
  have H0 := Lib.hid (And.intro (HK.out.aside k0) (And.intro b0 (And.intro HK.out.size (lt_of_blk b0))))
  clear hw0 k0 b0 HK
  obtain ⟨xb, hxb⟩ : ∃ xb, w.heap.size = xb := ⟨_, rfl⟩
  rw [hxb] at H0 ⊢
  clear hxb
  go_upto_region 4 with (first
    | (go_at_call 36
       refine (newt_c (Keep.refl w0 _) 40 20 ⟨by decide, by decide⟩ ⟨by decide, by decide⟩).mono ?_
       rintro e w1 ⟨tb, s0, rfl, c0, k1⟩
       have C0 := Lib.hid (And.intro c0 (k1.get H0.out.2.1 (fun q => q)))
       clear c0 k1)
    | (go_at_call 37
       refine (rtnew_c w1 40 20 ⟨by decide, by decide⟩ ⟨by decide, by decide⟩).mono ?_
       rintro e w2 ⟨rb, r0, rfl, b1, b2, b3, b4⟩
       have B0 : Hid (TB w0 w2 tb s0 (TreeV.new 40 20) rb r0 (TreeV.new 40 20) 20 1 ∧ w2.heap[xb]? = some (.cells #[.pointer none, .pointer none, .pointer none, .pointer none] 31 (0, 0))) := Lib.hid ⟨⟨C0.out.1.step b3, b1, b2, TreeV.new_good (by omega) (by omega) (by decide) (by decide), TreeV.new_small _ _, fun b q z => by have := thas_lt C0.out.1.tab q; have := b4 b z; omega, fun b q => by have := b4 b q; have := C0.out.1.keep.size; omega⟩, b3.get C0.out.2 (fun q => q)⟩
       clear b1 b2 b3 b4 C0)
    | (go_at_call 38
       refine (mnew_c _ 1).mono ?_
       rintro e w3 ⟨mb, S1, rfl, hp, ht⟩
       have C1 := Lib.hid (And.intro hp ht)
       clear hp ht)
    | (go_at_call 39
       refine (rmnew_c _ 1).mono ?_
       rintro e w4 ⟨qb, R1, rfl, hp, ht⟩
       have C2 := Lib.hid (And.intro hp ht)
       clear hp ht))
  have kz := Keep.alloc w4 (.cells (bothC tb mb rb qb) 31) (fun _ => False)
  have bz := heap_alloc_eq w4 (.cells (bothC tb mb rb qb) 31)
  have hw5 : w4.alloc (.cells (bothC tb mb rb qb) 31) = w4.alloc (.cells #[.pointer (some ⟨tb, 0, none⟩), .pointer (some ⟨mb, 0, none⟩), .pointer (some ⟨rb, 0, none⟩), .pointer (some ⟨qb, 0, none⟩)] 31) := rfl
  obtain ⟨w5, h5⟩ : ∃ w5, w5 = w4.alloc (.cells (bothC tb mb rb qb) 31) := ⟨_, rfl⟩
  rw [← hw5, ← h5]
  rw [← h5] at kz bz
  clear h5 hw5
  have hP : Hid ((∃ s r S R, PB W w5 tb s (TreeV.new 40 20) rb r (TreeV.new 40 20) mb S (MountV.new 1) qb R (MountV.new 1) 20 1 W (fun _ => False) ∧ ¬ s.has xb ∧ ¬ r.has xb ∧ ¬ S xb ∧ ¬ R xb) ∧ w5.heap[xb]? = some (.cells #[.pointer none, .pointer none, .pointer none, .pointer none] 31 (0, 0)) ∧ W.heap.size ≤ xb ∧ w5.heap[w4.heap.size]? = some (.cells (bothC tb mb rb qb) 31 (0, 0)) ∧ xb ≠ w4.heap.size) := by
    obtain ⟨hb, hx⟩ := B0.out
    obtain ⟨hm, hmt⟩ := C1.out
    obtain ⟨hq, hqt⟩ := C2.out
    obtain ⟨hk0, hbx, hWx, hxl⟩ := H0.out
    have k25 : Keep w2 w5 (fun _ => False) := (hmt.keep.aside hqt.keep).aside kz
    have k35 : Keep w3 w5 (fun _ => False) := hqt.keep.aside kz
    have z02 := hb.cur.keep.size
    have z23 := hmt.keep.size
    have z34 := hqt.keep.size
    have hS : ∀ b, S1 b → w2.heap.size ≤ b ∧ b < w3.heap.size := fun b q => ⟨(hmt.new b q).elim (fun z => z.elim) id, hm.lt b q⟩
    have hR : ∀ b, R1 b → w3.heap.size ≤ b := fun b q => (hqt.new b q).elim (fun z => z.elim) id
    have hs : ∀ b, s0.has b → b < w2.heap.size := fun b q => thas_lt hb.cur.tab q
    have hr : ∀ b, r0.has b → b < w2.heap.size := fun b q => rhas_lt hb.ref q
    refine Lib.hid ⟨⟨s0, r0, S1, R1, PB.base ⟨hb.aside k25, hm.aside k35, hq.aside kz, fun b q z => ?_, fun b q z => ?_, fun b q z => ?_, fun b q z => ?_, fun b q z => ?_, fun b q => ?_, fun b q => ?_, ⟨(hk0.aside (hb.cur.keep.aside k25)).mono (fun _ q => q.elim), fun _ q => q.elim, fun _ q => q.elim⟩⟩ hk0, fun q => ?_, fun q => ?_, fun q => ?_, fun q => ?_⟩, k25.get hx (fun q => q), hWx, bz, by omega⟩
    · have := hs b q; have := hS b z; omega
    · have := hs b q; have := hR b z; omega
    · have := hr b q; have := hS b z; omega
    · have := hr b q; have := hR b z; omega
    · have := hS b q; have := hR b z; omega
    · have := hS b q; omega
    · have := hR b q; omega
    · have := hb.cur.new _ q; omega
    · have := hb.r0 _ q; omega
    · have := hS _ q; omega
    · have := hR _ q; omega
  clear C1 C2 B0 H0 kz bz
  have hb1 := hP.out.2.1
  have hb2 := hP.out.2.2.2.1
  unfold bothC at hb2
  have x0 : w5.cell? ⟨w4.heap.size, 0, none⟩ = some (.pointer (some ⟨tb, 0, none⟩)) := by rw [cell_blk hb2]; rfl
  have x1 : w5.cell? ⟨w4.heap.size, 1, none⟩ = some (.pointer (some ⟨mb, 0, none⟩)) := by rw [cell_blk hb2]; rfl
  have x2 : w5.cell? ⟨w4.heap.size, 2, none⟩ = some (.pointer (some ⟨rb, 0, none⟩)) := by rw [cell_blk hb2]; rfl
  have x3 : w5.cell? ⟨w4.heap.size, 3, none⟩ = some (.pointer (some ⟨qb, 0, none⟩)) := by rw [cell_blk hb2]; rfl
  have y0 : w5.cell? ⟨xb, 0, none⟩ = some (.pointer none) := by rw [cell_blk hb1]; rfl
  have y1 : w5.cell? ⟨xb, 1, none⟩ = some (.pointer none) := by rw [cell_blk hb1]; rfl
  have y2 : w5.cell? ⟨xb, 2, none⟩ = some (.pointer none) := by rw [cell_blk hb1]; rfl
  have y3 : w5.cell? ⟨xb, 3, none⟩ = some (.pointer none) := by rw [cell_blk hb1]; rfl
  have f0 := free_blk hb1 0
  have f1 := free_blk hb1 1
  have f2 := free_blk hb1 2
  have f3 := free_blk hb1 3
  have hne := hP.out.2.2.2.2
  clear hb1 hb2
  go_wp2
  have s := sets_at [(0, .pointer (some ⟨tb, 0, none⟩)), (1, .pointer (some ⟨mb, 0, none⟩)), (2, .pointer (some ⟨rb, 0, none⟩)), (3, .pointer (some ⟨qb, 0, none⟩))] hP.out.2.1
  have k := sets_keep (b := xb) [(0, .pointer (some ⟨tb, 0, none⟩)), (1, .pointer (some ⟨mb, 0, none⟩)), (2, .pointer (some ⟨rb, 0, none⟩)), (3, .pointer (some ⟨qb, 0, none⟩))] w5
  simp only [sets] at s k
  obtain ⟨s9, r9, S9, R9, hB, n1, n2, n3, n4⟩ := hP.out.1
  refine bodyPost_ret (new_res (b := xb) (by simpa [setAll] using s) rfl rfl) rfl ⟨tb, mb, rb, qb, rfl, ⟨s9, r9, S9, R9, hB.put k n1 n2 n3 n4 hP.out.2.2.1 (fun q => q)⟩, ?_, ?_⟩
  · intro x hx
    simp only [TreeV.new, List.mem_singleton] at hx
    rw [hx]
    exact txt_empty
  · simp [MountV.new]
end Go.Proofs.YtoanccechefclaaGreatDoor
namespace Go.Proofs.YtoanccechefclaaGreatDoor
open Go Go.RowKit Go.ChangeShapes Go.WideShapes Go.Deep
theorem listIn_of {w : World} {x : Addr} {len cap : Nat} {xs : List Value} (hl : xs.length = len) (h : ∀ i u, xs[i]? = some u → w.cell? (x.add i) = some u) : ListIn w (.slice (some x) len cap) xs := by
  subst hl
  refine ⟨some x, cap, rfl, ?_⟩
  cases xs with
  | nil => exact .inl rfl
  | cons y r =>
    obtain ⟨b, off, sp⟩ := x
    have h0 := h 0 y rfl
    have hsp : sp = none := by
      cases sp with
      | none => rfl
      | some q =>
        simp only [Addr.add, if_true] at h0
        unfold World.cell? at h0
        split at h0 <;> simp at h0
    subst hsp
    have e : ∀ n, w.cell? (Addr.add ⟨b, off, none⟩ n) = w.cell? ⟨b, off + n, none⟩ := by
      intro n
      unfold Addr.add
      split
      · rename_i h0; subst h0; rfl
      · rfl
    refine .inr ⟨b, off, rfl, ?_, fun i u hi => by rw [← e]; exact h i u hi⟩
    rw [e] at h0
    exact World.block_lt_of_cell? w _ h0
def StrsIs (w : World) (a : Option Addr) (len cap : Nat) (ks : List ByteArray) : Prop :=
  ks.length = len ∧ len ≤ maxLen ∧ ListIn w (.slice a len cap) (ks.map Value.string) ∧ ∀ s ∈ ks, s.size ≤ maxLen
def NumsIs (k : IntKind) (w : World) (a : Option Addr) (len cap : Nat) (zs : List Int) : Prop :=
  zs.length = len ∧ len ≤ maxLen ∧ ListIn w (.slice a len cap) (zs.map (Value.int k)) ∧ ∀ n ∈ zs, (Lit.int k n).wf = true
def BoolsIs (w : World) (a : Option Addr) (len cap : Nat) (bs : List Bool) : Prop :=
  bs.length = len ∧ len ≤ maxLen ∧ ListIn w (.slice a len cap) (bs.map Value.bool)
section
variable {H : Type} {enc : TypeId × Value → H} {P : Program} {w : World} {base : Nat} {held : Bool}
theorem take_getA {α : Type} {l : List α} {n i : Nat} {x : α} (h : (l.take n)[i]? = some x) : l[i]? = some x := by
  rw [List.getElem?_take] at h
  split at h
  · exact h
  · simp at h
theorem nums_open {t e : TypeId} {k : IntKind} {fuel : Nat} {a : Option Addr} {len cap : Nat} {x : DataW H × List MemPlace} (ht : P.underlying t = some (.slice e)) (he : P.underlying e = some (.int k)) (hc : P.cellsOf e = 1)
    (h : DataW.trod enc P w base (fun _ => true) held fuel t [.slice a len cap] = some x) : ∃ ks, NumsIs k w a len cap ks := by
  rcases open_ints ht he hc h with ⟨hcs, _⟩ | ⟨y, l, c, ss, hcs, _, hl, hm, hz, _, hcell, hwz⟩
  · simp at hcs
    obtain ⟨rfl, rfl, rfl⟩ := hcs
    exact ⟨[], rfl, Nat.zero_le _, ⟨none, 0, rfl, .inl rfl⟩, by simp⟩
  · simp at hcs
    obtain ⟨rfl, rfl, rfl⟩ := hcs
    simp only [if_true] at hz
    have hlen : (ss.take len).length = len := by rw [List.length_take]; omega
    refine ⟨ss.take len, hlen, by omega, listIn_of (by rw [List.length_map, hlen]) (fun i u hi => ?_), fun s hs => hwz s (List.mem_of_mem_take hs)⟩
    rw [List.getElem?_map] at hi
    cases hx : (ss.take len)[i]? with
    | none => rw [hx] at hi; simp at hi
    | some z =>
      rw [hx] at hi
      simp at hi
      subst hi
      have h1 := take_getA hx
      obtain ⟨h2, h3⟩ := List.getElem?_eq_some_iff.1 h1
      rw [hcell i h2, List.getD_eq_getElem?_getD, h1]
      rfl
end
end Go.Proofs.YtoanccechefclaaGreatDoor
