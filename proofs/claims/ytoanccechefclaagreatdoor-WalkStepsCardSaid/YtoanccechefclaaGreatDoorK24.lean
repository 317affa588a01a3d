/-
  Parts of the walk's proof: Play2, Parts. (joined by pack.py)
-/
import Derived.Test.YtoanccechefclaaGreatDoorK15
import Derived.Test.YtoanccechefclaaGreatDoorK23
set_option linter.unusedSectionVars false
set_option linter.unusedSimpArgs false
set_option linter.unusedVariables false
namespace Go.Proofs.YtoanccechefclaaGreatDoor
open Go Go.RowKit Go.Shelf
set_option maxRecDepth 100000
section
variable {W w w' : World} {tb rb mb qb xb yb : Nat} {s s' : TShape} {r r' : RShape} {T T' U U' : TreeV} {S R S' R' : Nat → Prop} {V V' X : MountV} {bl k k' : Int} {x : ActV}
theorem TB.refs2 (h : TB W w tb s T rb r U bl k) (hr : RTreeIn w' rb r' bl U') (hu : RUp r'.up U') (hg : U'.good bl) (hs : U'.small k) (t : TurnR w r w' r') : TB W w' tb s T rb r' U' bl k :=
  ⟨⟨h.cur.tab.keep t.keep (fun b q z => h.sr b q z), h.cur.keep.trans t.keep (fun b q => .inr (h.r0 b q)), h.cur.new, h.cur.good, h.cur.small⟩, hr, hu, hg, hs, fun b q z => (t.new b z).elim (fun y => h.sr b q y) (fun y => by have := thas_lt h.cur.tab q; omega), fun b q => (t.new b q).elim (h.r0 b) (fun y => by have := h.cur.keep.size; omega)⟩
theorem PB.refs2 {Zw : World} {Z : Nat → Prop} (h : PB W w tb s T rb r U mb S V qb R X bl k Zw Z) (hr : RTreeIn w' rb r' bl U') (hu : RUp r'.up U') (hg : U'.good bl) (hs : U'.small k) (t : TurnR w r w' r') : PB W w' tb s T rb r' U' mb S V qb R X bl k Zw Z :=
  ⟨h.t.refs2 hr hu hg hs t, h.m.keep t.keep (fun b q z => h.rm b z q), h.q.keep t.keep (fun b q z => h.rq b z q), h.sm, h.sq,
    fun b q z => (t.new b q).elim (fun y => h.rm b y z) (fun y => by have := h.m.lt b z; omega), fun b q z => (t.new b q).elim (fun y => h.rq b y z) (fun y => by have := h.q.lt b z; omega), h.mq, h.m0, h.q0, h.z.refs t⟩
theorem PP.doc2 {Zw : World} {Z : Nat → Prop} (h : PP W w tb s T rb r U mb S V qb R X bl k Zw Z xb yb x) {P : Program} {f : Nat} {a : Array Value} {E : Ending} (hg : U'.good bl) (hs : U'.small k) (hc : ∀ w1, Keep w w1 (fun _ => False) → Calls P f a w1 fun e w2 => e = E ∧ RTo w1 r rb bl U' w2) :
    ∀ w1, Keep w w1 (fun _ => False) → Calls P f a w1 fun e w2 => e = E ∧ ∃ r', PP W w2 tb s T rb r' U' mb S V qb R X bl k Zw Z xb yb x := fun w1 K => by
  refine (hc w1 K).mono ?_
  rintro e w2 ⟨h1, r', c, u, t⟩
  exact ⟨h1, r', (h.1.aside K).refs2 c u hg hs t, (h.2.aside K).refs t⟩
theorem PP.stat {Zw : World} {Z : Nat → Prop} (h : PP W w tb s T rb r T mb S V qb R X bl k Zw Z xb yb x) (hk : k ≤ 900000) (n : Int) : ∀ w1, Keep w w1 (fun _ => False) →
    Calls Tryz.prog 89 #[.pointer (some ⟨rb, 0, none⟩), .int .i64 n] w1 fun e w2 => e = .returned (.tuple #[.agg (statC (T.stat n).1), .bool (T.stat n).2]) ∧ PP W w2 tb s T rb r T mb S V qb R X bl k Zw Z xb yb x := fun w1 K => by
  have h1 := h.aside K
  refine (rtstat_c h1.1.t.ref (TreeV.rng_of h1.1.t.rgood.ok (h1.1.t.rsmall.mono hk) (by decide)) h1.1.t.rgood.ok (h1.1.t.rsmall.mono (by omega)) n).mono ?_
  rintro e w2 ⟨rfl, K2⟩
  exact ⟨rfl, h1.aside K2⟩
theorem PP.rhold {Zw : World} {Z : Nat → Prop} (h : PP W w tb s T rb r U mb S V qb R X bl k Zw Z xb yb x) (hk : k ≤ 900000) (n : Int) (hs : (U.hold n).1.small k) : ∀ w1, Keep w w1 (fun _ => False) →
    Calls Tryz.prog 93 #[.pointer (some ⟨rb, 0, none⟩), .int .i64 n] w1 fun e w2 => e = .returned (.int .i64 (U.hold n).2) ∧ ∃ r', PP W w2 tb s T rb r' (U.hold n).1 mb S V qb R X bl k Zw Z xb yb x :=
  h.doc2 (h.1.t.rgood.hold n) hs (fun w1 K => rhold_c (h.1.t.aside K).ref (h.1.t.aside K).up h.1.t.rgood (h.1.t.rsmall.mono hk) n)
end
def bindV (T : TreeV) (V : MountV) (x : ActV) : TreeV × MountV :=
  if (T.stat x.to_).2 = false ∨ (T.stat x.an).2 = false then (T, V)
  else if (V.bind x.am x.an x.to_).2.2 = 0 then (((T.hold x.to_).1.hold x.an).1, (V.bind x.am x.an x.to_).1)
  else (T, (V.bind x.am x.an x.to_).1)
set_option maxHeartbeats 8000000 in
theorem pbind_c {Zw : World} {Z : Nat → Prop} {W w : World} {tb rb mb qb : Nat} {s : TShape} {r : RShape} {T : TreeV} {S R : Nat → Prop} {V : MountV} {bl k : Int} (h : PB W w tb s T rb r T mb S V qb R V bl k Zw Z) (hk : k ≤ 90000) (hV : 0 ≤ V.turns ∧ V.turns ≤ k ∧ V.made ≤ k) (x : ActV) :
    Calls Tryz.prog 48 #[.agg (bothC tb mb rb qb), .agg (actC x)] w fun e w' => e = .returned (.bool true) ∧ ∃ s' r' S' R', PB W w' tb s' (bindV T V x).1 rb r' (bindV T V x).1 mb S' (bindV T V x).2 qb R' (bindV T V x).2 bl (k + 6) Zw Z := by
  have hk9 : k ≤ 900000 := by omega
  obtain ⟨wx, hX0, hwx⟩ := do_start h x
  obtain ⟨sv, ok, hs0⟩ : ∃ sv ok, T.stat x.to_ = (sv, ok) := ⟨_, _, rfl⟩
  obtain ⟨sw, is, hs1⟩ : ∃ sw is, T.stat x.an = (sw, is) := ⟨_, _, rfl⟩
  obtain ⟨V2, bk, be, hB⟩ : ∃ V2 bk be, V.bind x.am x.an x.to_ = (V2, bk, be) := ⟨_, _, _, rfl⟩
  have c1 := hX0.stat hk9 x.to_
  rw [hs0] at c1
  simp only at c1
  simp only [statC] at c1
  have X := Lib.hid hX0
  obtain ⟨yp0, yp1, yp2, yp3, yc0, yc1, yc2, yc3, yc4, yc5, yc6, yc7, yc8, yc9, yc10, yc11, yc12, yc13, yc14⟩ := hX0.2.cells
  have Q := Lib.hid (And.intro hs0 (And.intro hs1 hB))
  clear hX0 h hs0 hs1 hB
  unfold bothC actC at hwx ⊢
  go_enter Tryz.func48, Tryz.ntmps48
  go_upto_region 1 with (fail)
  rw [← hwx]
  clear hwx
  go_upto_region 2 with (first
    | (go_at_call 89
       refine (c1 _ (Keep.refl _ _)).mono ?_
       rintro e w4 ⟨rfl, hX4⟩
       have hX5 := hX4.aside (Keep.alloc w4 (.cells (statC sv) 36) (fun _ => False))
       simp only [statC] at hX5
       have N4 := Lib.hid hX5
       have c2 := hX5.stat hk9 x.an
       rw [Q.out.2.1] at c2
       simp only at c2
       simp only [statC] at c2
       obtain ⟨ip0, ip1, ip2, ip3, ic0, ic1, ic2, ic3, ic4, ic5, ic6, ic7, ic8, ic9, ic10, ic11, ic12, ic13, ic14⟩ := hX5.2.cells
       clear c1 hX4 hX5))
  go_upto_region 3 with (first
    | (go_at_call 89
       refine (c2 _ (Keep.refl _ _)).mono ?_
       rintro e w5 ⟨rfl, hX4⟩
       have hX5 := hX4.aside (Keep.alloc w5 (.cells (statC sw) 36) (fun _ => False))
       simp only [statC] at hX5
       have N5 := Lib.hid hX5
       have c3 := hX5.mprog (fun w1 K => mbind_c (hX5.1.aside K).m ⟨hV.1, by omega⟩ (by omega) x.am x.an x.to_)
       rw [Q.out.2.2] at c3
       simp only at c3
       obtain ⟨jp0, jp1, jp2, jp3, jc0, jc1, jc2, jc3, jc4, jc5, jc6, jc7, jc8, jc9, jc10, jc11, jc12, jc13, jc14⟩ := hX5.2.cells
       clear c2 hX4 hX5))
  cases ok with
  | false =>
    go_wp2
    go_ret
    have hd : bindV T V x = (T, V) := by unfold bindV; rw [Q.out.1]; simp
    rw [hd]
    exact ⟨rfl, _, _, _, _, N5.out.1.more (by omega)⟩
  | true =>
  cases is with
  | false =>
    go_wp2
    go_ret
    have hd : bindV T V x = (T, V) := by unfold bindV; rw [Q.out.1, Q.out.2.1]; simp
    rw [hd]
    exact ⟨rfl, _, _, _, _, N5.out.1.more (by omega)⟩
  | true =>
  go_upto_region 7 with (first
    | (go_at_call 90
       refine (c3 _ (Keep.refl _ _)).mono ?_
       rintro e w6 ⟨rfl, S6, hX5⟩
       have N6 := Lib.hid hX5
       have c4 := hX5.mdoc (fun w1 K => rmbind_c (hX5.1.aside K).q (by omega) x.am x.an x.to_)
       rw [Q.out.2.2] at c4
       simp only at c4
       obtain ⟨lp0, lp1, lp2, lp3, lc0, lc1, lc2, lc3, lc4, lc5, lc6, lc7, lc8, lc9, lc10, lc11, lc12, lc13, lc14⟩ := hX5.2.cells
       clear c3 hX5)
    | (go_at_call 91
       refine (c4 _ (Keep.refl _ _)).mono ?_
       rintro e w7 ⟨rfl, R7, hX5⟩
       have N7 := Lib.hid hX5
       have c5 := hX5.prog (fun w1 K => hold_t hX5.1.t.cur hk9 x.to_ w1 K)
       obtain ⟨mp0, mp1, mp2, mp3, mc0, mc1, mc2, mc3, mc4, mc5, mc6, mc7, mc8, mc9, mc10, mc11, mc12, mc13, mc14⟩ := hX5.2.cells
       clear c4 hX5))
  have b0 : (bk == bk) = true := by simp
  have b1 : (be == be) = true := by simp
  by_cases hz : be = 0
  · have z1 : (be == 0) = true := by simp [hz]
    have HZ := Lib.hid hz
    clear hz
    go_wp2_with (first
      | (go_at_call 92
         refine (c5 _ (Keep.refl _ _)).mono ?_
         rintro e w8 ⟨rfl, s8, hX5⟩
         have N8 := Lib.hid hX5
         have c6 := hX5.prog (fun w1 K => hold_t hX5.1.t.cur (by omega) x.an w1 K)
         obtain ⟨np0, np1, np2, np3, nc0, nc1, nc2, nc3, nc4, nc5, nc6, nc7, nc8, nc9, nc10, nc11, nc12, nc13, nc14⟩ := hX5.2.cells
         clear c5 hX5)
      | (go_at_call 92
         refine (c6 _ (Keep.refl _ _)).mono ?_
         rintro e w9 ⟨rfl, s9, hX5⟩
         have N9 := Lib.hid hX5
         have c7 := hX5.rhold (by omega) x.to_ ((N8.out.1.t.cur.small).mono (by omega))
         obtain ⟨op0, op1, op2, op3, oc0, oc1, oc2, oc3, oc4, oc5, oc6, oc7, oc8, oc9, oc10, oc11, oc12, oc13, oc14⟩ := hX5.2.cells
         clear c6 hX5)
      | (go_at_call 93
         refine (c7 _ (Keep.refl _ _)).mono ?_
         rintro e wA ⟨rfl, rA, hX5⟩
         have NA := Lib.hid hX5
         have c8 := hX5.rhold (by omega) x.an N9.out.1.t.cur.small
         obtain ⟨pp0, pp1, pp2, pp3, pc0, pc1, pc2, pc3, pc4, pc5, pc6, pc7, pc8, pc9, pc10, pc11, pc12, pc13, pc14⟩ := hX5.2.cells
         clear c7 hX5)
      | (go_at_call 93
         refine (c8 _ (Keep.refl _ _)).mono ?_
         rintro e wB ⟨rfl, rB, hX5⟩
         have NB := Lib.hid hX5
         clear c8 hX5))
    go_ret
    have hd : bindV T V x = (((T.hold x.to_).1.hold x.an).1, V2) := by unfold bindV; rw [Q.out.1, Q.out.2.1, Q.out.2.2]; simp [HZ.out]
    rw [hd]
    exact ⟨rfl, _, _, _, _, NB.out.1.more (by omega)⟩
  · have z1 : (be == 0) = false := by simp [hz]
    have HZ := Lib.hid hz
    clear hz
    go_wp2
    go_ret
    have hd : bindV T V x = (T, V2) := by unfold bindV; rw [Q.out.1, Q.out.2.1, Q.out.2.2]; simp [HZ.out]
    rw [hd]
    exact ⟨rfl, _, _, _, _, N7.out.1.more (by omega)⟩
set_option maxHeartbeats 8000000 in
theorem do6_c {Zw : World} {Z : Nat → Prop} {W w : World} {tb rb mb qb : Nat} {s : TShape} {r : RShape} {T : TreeV} {S R : Nat → Prop} {V : MountV} {bl k : Int} (h : PB W w tb s T rb r T mb S V qb R V bl k Zw Z) (hk : k ≤ 90000) (hV : 0 ≤ V.turns ∧ V.turns ≤ k ∧ V.made ≤ k) (x : ActV) (hx : x.kind = 6) :
    Calls Tryz.prog 12 #[.agg (bothC tb mb rb qb), .agg (actC x)] w fun e w' => e = .returned (.bool true) ∧ ∃ s' r' S' R', PB W w' tb s' (doV T V x).1 rb r' (doV T V x).1 mb S' (doV T V x).2 qb R' (doV T V x).2 bl (k + 6) Zw Z := by
  obtain ⟨wx, hX0, hwx⟩ := do_start h x
  have X := Lib.hid hX0
  have hd : doV T V x = bindV T V x := by unfold doV bindV; simp [hx]
  rw [hd]
  have hu := pbind_c hX0.1 hk hV x
  obtain ⟨yp0, yp1, yp2, yp3, yc0, yc1, yc2, yc3, yc4, yc5, yc6, yc7, yc8, yc9, yc10, yc11, yc12, yc13, yc14⟩ := hX0.2.cells
  rw [hx] at yc0
  have HX := Lib.hid hx
  have HD := Lib.hid hd
  clear hX0 h hd
  have hcx : actC x = #[.int .i64 6, .int .i64 x.dir, .int .i64 x.to_, .int .i64 x.n, .string x.s, .string x.as_, .int .i64 x.st.node, .int .i64 x.st.kind, .int .i64 x.st.mode, .int .i64 x.st.uid, .int .i64 x.st.gid, .int .i64 x.st.links, .int .i64 x.st.size, .int .i64 x.am, .int .i64 x.an] := by unfold actC; rw [hx]
  rw [hcx] at hu hwx ⊢
  clear hcx hx
  unfold bothC at hu hwx ⊢
  go_enter Tryz.func12, Tryz.ntmps12
  go_upto_region 1 with (fail)
  rw [← hwx]
  clear hwx
  go_wp2_with (first
    | (go_at_call 48
       refine hu.mono ?_
       rintro e w5 ⟨rfl, s4, r4, S4, R4, hX5⟩
       have N5 := Lib.hid hX5
       clear hu hX5))
  go_ret
  exact ⟨rfl, s4, r4, S4, R4, N5.out⟩
structure ActOk (x : ActV) : Prop where
  kind : 1 ≤ x.kind ∧ x.kind ≤ 8
  name : NameOk x.s
  as_ : x.kind = 4 → NameOk x.as_
theorem do_c {Zw : World} {Z : Nat → Prop} {W w : World} {tb rb mb qb : Nat} {s : TShape} {r : RShape} {T : TreeV} {S R : Nat → Prop} {V : MountV} {bl k : Int} (h : PB W w tb s T rb r T mb S V qb R V bl k Zw Z) (hk : k ≤ 90000) (hV : 0 ≤ V.turns ∧ V.turns ≤ k ∧ V.made ≤ k) (x : ActV) (ho : ActOk x) :
    Calls Tryz.prog 12 #[.agg (bothC tb mb rb qb), .agg (actC x)] w fun e w' => e = .returned (.bool true) ∧ ∃ s' r' S' R', PB W w' tb s' (doV T V x).1 rb r' (doV T V x).1 mb S' (doV T V x).2 qb R' (doV T V x).2 bl (k + 6) Zw Z := by
  have hkd := ho.kind
  by_cases h1 : x.kind = 1; · exact do1_c h hk hV x h1 ho.name
  by_cases h2 : x.kind = 2; · exact do2_c h hk hV x h2 ho.name
  by_cases h3 : x.kind = 3; · exact do3_c h hk hV x h3
  by_cases h4 : x.kind = 4; · exact do4_c h hk hV x h4 (ho.as_ h4)
  by_cases h5 : x.kind = 5; · exact do5_c h hk hV x h5
  by_cases h6 : x.kind = 6; · exact do6_c h hk hV x h6
  by_cases h7 : x.kind = 7; · exact do7_c h hk hV x h7
  exact do8_c h hk hV x (by omega)
end Go.Proofs.YtoanccechefclaaGreatDoor
namespace Go.Proofs.YtoanccechefclaaGreatDoor
open Go Go.RowKit Go.Shelf
attribute [local go_sem] Oper.semAt_some
def neB (x : ByteArray) : Bool := decide (x.data.toList ≠ [])
theorem parts_filter (s : Bl) : ((pieces s).map txB).filter neB = (parts s).map txB := by
  unfold parts
  rw [List.filter_map]
  rfl
def Kn (n : Nat) (U U' : World) : Prop := KeepsFrom n U U' ∧ ∀ b, n ≤ b → b < n + 4 → U'.heap[b]? = U.heap[b]?
theorem Kn.refl (n : Nat) (U : World) : Kn n U U := ⟨KeepsFrom.refl _ _, fun _ _ _ => rfl⟩
theorem Kn.trans {n : Nat} {A B C : World} (h : Kn n A B) (k : Kn n B C) : Kn n A C := ⟨h.1.trans k.1, fun b h1 h2 => (k.2 b h1 h2).trans (h.2 b h1 h2)⟩
set_option maxRecDepth 100000 in
set_option maxHeartbeats 2000000 in
theorem parts1_c (l bs : Nat) (s : Bl) (hs : s.length ≤ 1000000) (J Jx : List ByteArray → World → Prop) (W : World) (hJ : AbidesX W.heap.size (fun b => b = W.heap.size + 1) J) (hJx : AbidesX W.heap.size (fun b => b = W.heap.size + 1) Jx)
    (hY : ∀ pre x U, J pre U → W.heap.size + 6 ≤ U.heap.size → pre.length ≤ 1000000 → YieldAt Fence.wide 7 Tryz.prog l #[.string x] U fun e U' => (e = .returned (.bool true) ∧ J (pre ++ [x]) U' ∧ Kn W.heap.size U U' ∧ U.heap.size ≤ U'.heap.size) ∨ (e = .returned (.bool false) ∧ Jx (pre ++ [x]) U' ∧ Kn W.heap.size U U'))
    (hW : W.heap[bs]? = some (.cells #[.string (txB s)] 9 (0, 0))) (h0 : J [] W) :
    Calls Tryz.prog 139 #[.func (.yield l) #[] #[], .pointer (some ⟨bs, 0, none⟩)] W fun e U => (∃ v, e = .returned v) ∧
      ((∃ xs, xs = (parts s).map txB ∧ J xs U) ∨ (∃ pre, pre <+: (parts s).map txB ∧ Jx pre U)) := by
  obtain ⟨n, hn⟩ : ∃ n, n = W.heap.size := ⟨_, rfl⟩
  obtain ⟨o1, ho1⟩ : ∃ o, o = Obj.cells #[.func (.yield l) #[] #[]] 131 (0, 0) := ⟨_, rfl⟩
  have kW1 := Keep.alloc W o1 (fun _ => False)
  have c1 : (W.alloc o1).cell? ⟨bs, 0, none⟩ = some (.string (txB s)) := by rw [cell_blk (kW1.get hW (fun q => q))]; rfl
  have hsp := split_c (W.alloc o1) (txB s)
  rw [ho1] at c1 hsp
  refine calls_marks Tryz.func139 rfl ?_
  simp only [Tryz.ntmps139, List.size_toArray, List.length_cons, List.length_nil, Nat.reduceAdd, Nat.reduceSub, Array.replicate_succ, Array.replicate_zero, List.push_toArray, List.append_toArray, List.nil_append, List.cons_append]
  go_wp2_with (
    go_at_call 140
    refine hsp.mono ?_
    rintro e w4 ⟨rfl, hw4⟩
    have HW4 := Lib.hid hw4
    clear hw4)
  have hw4 := HW4.out
  have hj := h0
  obtain ⟨k4, b0, hS4, z4⟩ : Keep W w4 (fun _ => False) ∧ w4.heap[W.heap.size]? = some (.cells #[.func (.yield l) #[] #[]] 131 (0, 0)) ∧ SplW w4 (W.heap.size + 1 + 1) (W.heap.size + 1) (W.heap.size + 1 + 1 + 1) s ∧ w4.heap.size = W.heap.size + 4 := by
    have k1 := Keep.alloc W (.cells #[.func (.yield l) #[] #[]] 131) (fun _ => False)
    have g1 := heap_alloc_eq W (.cells #[.func (.yield l) #[] #[]] 131)
    have e1 : (W.alloc (.cells #[.func (.yield l) #[] #[]] 131)).heap.size = W.heap.size + 1 := by simp
    generalize W.alloc (.cells #[.func (.yield l) #[] #[]] 131) = w1 at *
    have k2 := Keep.alloc w1 (.cells #[.string (txB s)] 9) (fun _ => False)
    have g2 := heap_alloc_eq w1 (.cells #[.string (txB s)] 9)
    have e2 : (w1.alloc (.cells #[.string (txB s)] 9)).heap.size = w1.heap.size + 1 := by simp
    generalize w1.alloc (.cells #[.string (txB s)] 9) = w2 at *
    have k3 := Keep.alloc w2 (.cells #[.string ⟨#[47]⟩] 9) (fun _ => False)
    have g3 := heap_alloc_eq w2 (.cells #[.string ⟨#[47]⟩] 9)
    have e3 : (w2.alloc (.cells #[.string ⟨#[47]⟩] 9)).heap.size = w2.heap.size + 1 := by simp
    generalize w2.alloc (.cells #[.string ⟨#[47]⟩] 9) = w3 at *
    have k4 := Keep.alloc w3 (.cells #[.int .i64 0] 3) (fun _ => False)
    have g4 := heap_alloc_eq w3 (.cells #[.int .i64 0] 3)
    have e4 : (w3.alloc (.cells #[.int .i64 0] 3)).heap.size = w3.heap.size + 1 := by simp
    rw [← hw4] at k4 g4 e4
    refine ⟨((k1.trans k2 (fun _ q => q.elim)).trans k3 (fun _ q => q.elim)).trans k4 (fun _ q => q.elim), k4.get (k3.get (k2.get g1 (fun q => q)) (fun q => q)) (fun q => q), ⟨?_, ?_, ?_, by omega⟩, by omega⟩
    · have := k4.get g3 (fun q => q); rwa [e2, e1] at this
    · have := k4.get (k3.get g2 (fun q => q)) (fun q => q); rwa [e1] at this
    · rwa [e3, e2, e1] at g4
  clear hw4 HW4 hsp c1 kW1 ho1
  have HS := Lib.hid (And.intro hS4 (And.intro k4 (And.intro b0 z4)))
  have ht : ∀ {A A' : World}, Keep A A' (Turns w4.heap.size (fun b => b = W.heap.size + 1) A) → Keep A A' (Turns W.heap.size (fun b => b = W.heap.size + 1) A) := fun k => k.mono fun b q => q.imp id (fun ⟨q1, q2⟩ => ⟨by have := HS.out.2.2.2; omega, q2⟩)
  have hnb : ∀ {A : World}, ¬ Turns w4.heap.size (fun b => b = W.heap.size + 1) A W.heap.size := fun q => by
    have := HS.out.2.2.2
    rcases q with q | q
    · have q' : W.heap.size = W.heap.size + 1 := q; omega
    · have := q.1; omega
  have hkb : ∀ {n : Nat} {U U' : World}, n = W.heap.size → Kn n U U' → Kb (W.heap.size + 1 + 1) (W.heap.size + 1) (W.heap.size + 1 + 1 + 1) U U' := fun e k => by
    subst e
    exact ⟨k.2 _ (by omega) (by omega), k.2 _ (by omega) (by omega), k.2 _ (by omega) (by omega)⟩
  clear hS4 k4 b0 z4
  refine wp_rangeC (j := 3) (gf := 166) (lb := #[.pointer (some ⟨W.heap.size + 1 + 1, 0, none⟩), .pointer (some ⟨W.heap.size + 1, 0, none⟩), .pointer (some ⟨W.heap.size + 1 + 1 + 1, 0, none⟩)]) rfl (enters_of Tryz.func166 (by kernel_rfl) rfl)
    (split_seq _ _ _ s hs w4 HS.out.1 (by have := HS.out.2.2.2; omega)) (fun b q => .inl (by have q' : b = W.heap.size + 1 := q; have := HS.out.2.2.2; omega))
    (fun h k => ⟨k.1.trans h.1, k.2.1.trans h.2.1, k.2.2.trans h.2.2⟩)
    (fun A l' o o' hl ho hc hw => by
      have := HS.out.2.2.2
      refine ⟨?_, ?_, ?_⟩ <;> exact World.putObj_heap_other (by omega))
    (fun pre U => J (pre.filter neB) U ∧ U.heap[W.heap.size]? = some (.cells #[.func (.yield l) #[] #[]] 131 (0, 0)))
    (fun c pre U => c = .ret ∧ Jx (pre.filter neB) U)
    (fun a A A' h k => ⟨hJ _ _ _ h.1 (ht k), k.get h.2 hnb⟩)
    (fun c a A A' h k => ⟨h.1, hJx _ _ _ h.2 (ht k)⟩)
    ⟨hJ _ _ _ h0 (HS.out.2.1.mono fun _ q => q.elim), HS.out.2.2.1⟩
    ?assign ?body ?done ?stop
  case assign =>
    intro l' x U K hK
    gi_wp2
    exact hK
  case body =>
    rintro l' pre x U ⟨hj2, hb2⟩ hsz hpl
    have hz4 := HS.out.2.2.2
    have q0 : U.cell? ⟨W.heap.size, 0, none⟩ = some (.func (.yield l) #[] #[]) := by rw [cell_blk hb2]; rfl
    have hfl : (pre ++ [x]).filter neB = pre.filter neB ++ if x.data.toList ≠ [] then [x] else [] := by
      rw [List.filter_append]
      congr 1
      by_cases h : x.data.toList = [] <;> simp [neB, h]
    have hkf : ∀ {U' : World}, Kn W.heap.size U U' → KeepsFrom w4.heap.size U U' := fun k => ⟨k.1.size, fun b o hB hb ho => k.1.same b o (by omega) hb ho⟩
    by_cases hx : x.data.toList = []
    · have hx1 : x.toList = [] := by rw [ByteArray.toList_eq]; exact hx
      rw [if_neg (by simpa using hx), List.append_nil] at hfl
      have HF := Lib.hid (And.intro hfl (And.intro hj2 hb2))
      clear hfl hx hj2 hb2
      gi_wp2
      refine ⟨fun _ h => (by cases h), ?_⟩
      gi_wp2
      exact ⟨KeepsFrom.refl _ _, ⟨rfl, rfl, rfl⟩, by rw [HF.out.1]; exact HF.out.2.1, HF.out.2.2⟩
    · have hx1 : ¬ x.toList = [] := by rw [ByteArray.toList_eq]; exact hx
      have hx2 : x.toList.isEmpty = false := by rw [List.isEmpty_eq_false_iff]; exact hx1
      rw [if_pos hx] at hfl
      obtain ⟨fn, tmps, assign, body, hy, hR⟩ := hY (pre.filter neB) x U hj2 (by omega) (Nat.le_trans (List.length_filter_le _ _) hpl)
      have HF := Lib.hid (And.intro hfl (And.intro hb2 hsz))
      clear hfl hx hj2 hb2 hsz
      gi_wp2
      refine (RoundIn.inRound (RoundIn.wide hR) l').mono ?_
      rintro e U' (⟨rfl, hj3, hk3, hz3⟩ | ⟨rfl, hx3, hk3⟩)
      · gi_wp2
        exact ⟨hkf hk3, hkb rfl hk3, by rw [HF.out.1]; exact hj3, (hk3.2 _ (Nat.le_refl _) (by omega)).trans HF.out.2.1⟩
      · gi_wp2
        exact ⟨hkf hk3, hkb rfl hk3, rfl, by rw [HF.out.1]; exact hx3⟩
  case done =>
    rintro D xs U hD rfl ⟨hj2, hb2⟩ hK
    have hz4 := HS.out.2.2.2
    rw [parts_filter] at hj2
    refine leaves_mark hK (fun w' kk => ⟨_, results_none rfl _ _ _, ⟨_, rfl⟩, .inl ⟨_, rfl, hJ _ _ _ hj2 (kk.mono fun b q => .inr ?_)⟩⟩)
    have q' : b = D := q
    subst q'
    exact ⟨by omega, _, hK, rfl⟩
  case stop =>
    rintro D c pre U hD hpre ⟨rfl, hx2⟩ hK
    have hz4 := HS.out.2.2.2
    have hpf : pre.filter neB <+: (parts s).map txB := by
      rw [← parts_filter]
      exact List.IsPrefix.filter _ hpre
    have HP := Lib.hid (And.intro hpf hx2)
    clear hpf hx2 hpre
    go_wp2
    refine leaves_mark hK (fun w' kk => ⟨_, results_none rfl _ _ _, ⟨_, rfl⟩, .inr ⟨_, HP.out.1, hJx _ _ _ HP.out.2 (kk.mono fun b q => .inr ?_)⟩⟩)
    have q' : b = D := q
    subst q'
    exact ⟨by omega, _, hK, rfl⟩
theorem parts_seq (bs : Nat) (s : Bl) (hs : s.length ≤ 1000000) (w : World) (hW : w.heap[bs]? = some (.cells #[.string (txB s)] 9 (0, 0))) :
    SeqC 8 Tryz.prog 139 #[.pointer (some ⟨bs, 0, none⟩)] (fun x : ByteArray => Value.string x) (fun n b => b = n + 1) 6 Kn (fun xs => xs = (parts s).map txB) (fun pre => pre <+: (parts s).map txB) w := fun l J Jx W hB hJ hJx hY h0 =>
  callsIn_wide.2 (parts1_c l bs s hs J Jx W hJ hJx hY ((Keep.of_below hB).get hW (fun q => by have := lt_of_blk hW; omega)) h0)
theorem parts_c (w : World) (s : ByteArray) :
    Calls Tryz.prog 122 #[.string s] w fun r w' => r = .returned (.func (.func 139) #[] #[.pointer (some ⟨w.heap.size, 0, none⟩)]) ∧ w' = w.alloc (.cells #[.string s] 9) := by
  go_enter Tryz.func122, Tryz.ntmps122
  go_wp2
  go_ret
  exact ⟨rfl, rfl⟩
end Go.Proofs.YtoanccechefclaaGreatDoor
