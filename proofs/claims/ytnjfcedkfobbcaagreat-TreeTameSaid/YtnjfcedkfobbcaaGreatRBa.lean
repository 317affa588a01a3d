/-
  Both trees, side by side. (RBa: RB0, RB2)
-/
import Derived.Test.YtnjfcedkfobbcaaGreatRTd
import Derived.Test.YtnjfcedkfobbcaaGreatNRights
import Derived.Test.YtnjfcedkfobbcaaGreatTame
import Derived.Test.YtnjfcedkfobbcaaGreatTreeWs
import Derived.Test.YtnjfcedkfobbcaaGreatSameN
import Derived.Test.YtnjfcedkfobbcaaGreatTexts
import Derived.Test.YtnjfcedkfobbcaaGreatTreeNames

/-! Both trees, side by side. -/
namespace Go.Proofs.YtnjfcedkfobbcaaGreat
open Go Go.RowKit Go.Shelf
set_option linter.unusedSectionVars false
set_option linter.unusedSimpArgs false
set_option linter.unusedVariables false
set_option maxRecDepth 100000

theorem rrightIs {l : Bl} {b : Bool} (h : rightP l = b) (hl : l.length ≤ 1000000) : RRightIs (txB l) b := fun U => by
  rw [← h]
  refine (rright_c l U hl).mono ?_
  rintro e w ⟨h1, h2⟩
  exact ⟨h1, h2.symm⟩
theorem rright_key {s : ByteArray} (h : s = ka ∨ s = kb ∨ s = kC) : RRightIs s true := by
  rcases h with rfl | rfl | rfl
  · exact rrightIs (l := [97]) (by decide +kernel) (by decide)
  · exact rrightIs (l := [98]) (by decide +kernel) (by decide)
  · exact rrightIs (l := [99]) (by decide +kernel) (by decide)

theorem addr_plainT {w : World} {x : Addr} {v : Value} (h : w.cell? (x.add 0) = some v) : ∃ b off, x = ⟨b, off, none⟩ ∧ b < w.heap.size ∧ ∀ i, x.add i = ⟨b, off + i, none⟩ := by
  obtain ⟨b, off, sp⟩ := x
  have hsp : sp = none := by
    cases sp with
    | none => rfl
    | some q =>
      simp only [Addr.add, if_true] at h
      unfold World.cell? at h
      split at h <;> simp at h
  subst hsp
  refine ⟨b, off, rfl, ?_, fun i => ?_⟩
  · have := World.block_lt_of_cell? w _ h
    simpa [Addr.add] using this
  · unfold Addr.add
    split
    · rename_i h0; subst h0; rfl
    · rfl

/-- The front of a row that was handed in. -/
theorem bytesIn_row {w : World} {a : Option Addr} {len cap : Nat} {zs : List Int} (h : RowIs w a len cap zs) {m : Nat} (hm : m ≤ len) : ∃ l : List Int, l.length = m ∧ m ≤ maxLen ∧ BytesIn w (.slice a m cap) l (fun b => w.heap.size ≤ b) := by
  by_cases h0 : m = 0
  · subst h0
    exact ⟨[], rfl, Nat.zero_le _, by simp, a, cap, rfl, .inl rfl⟩
  · rcases h with ⟨rfl, rfl, rfl, _⟩ | ⟨x, rfl, h1, h2, h3, h4, h5⟩
    · omega
    · obtain ⟨b, off, rfl, hb, ha⟩ := addr_plainT (h4 0 (by omega))
      have hl : (zs.take m).length = m := by rw [List.length_take]; omega
      refine ⟨zs.take m, hl, by omega, fun c hc => by have := bounds_u8 (h5 c (List.mem_of_mem_take hc)); omega, _, cap, by rw [hl], .inr ⟨b, off, rfl, fun q => by omega, fun i hi => ?_⟩⟩
      rw [hl] at hi
      have h9 := h4 i (by omega)
      rw [ha] at h9
      rw [h9, List.getD_eq_getElem?_getD, List.getD_eq_getElem?_getD, List.getElem?_take, if_pos hi]

theorem thas_lt {w : World} {tb : Nat} {s : TShape} {T : TreeV} (h : TreeIn w tb s T) {b : Nat} (q : s.has b) : b < w.heap.size := by
  cases hg : s.tag b with
  | none => exact absurd hg q
  | some g => exact h.lt b g hg

structure TB (W w : World) (tb : Nat) (s : TShape) (T : TreeV) (rb : Nat) (r : RShape) (U : TreeV) (bl k : Int) : Prop where
  cur : TCur W w tb s T bl k
  ref : RTreeIn w rb r bl U
  up : RUp r.up U
  rgood : U.good bl
  rsmall : U.small k
  sr : ∀ b, s.has b → ¬ r.has b
  r0 : ∀ b, r.has b → W.heap.size ≤ b
section
variable {W w w' : World} {tb rb : Nat} {s s' : TShape} {r r' : RShape} {T T' U : TreeV} {bl k k' : Int}
theorem TB.turn (h : TB W w tb s T rb r U bl k) (c : TCur W w' tb s' T' bl k') (t : TurnT w s w' s') (hk : k ≤ k') : TB W w' tb s' T' rb r U bl k' :=
  ⟨c, h.ref.keep t.keep (fun b q z => h.sr b z q), h.up, h.rgood, h.rsmall.mono hk, fun b q z => (t.new b q).elim (fun y => h.sr b y z) (fun y => by have := rhas_lt h.ref z; omega), h.r0⟩
theorem TB.refs (h : TB W w tb s T rb r U bl k) (hr : RTreeIn w' rb r' bl T) (hu : RUp r'.up T) (t : TurnR w r w' r') : TB W w' tb s T rb r' T bl k :=
  ⟨⟨h.cur.tab.keep t.keep (fun b q z => h.sr b q z), h.cur.keep.trans t.keep (fun b q => .inr (h.r0 b q)), h.cur.new, h.cur.good, h.cur.small⟩, hr, hu, h.cur.good, h.cur.small, fun b q z => (t.new b z).elim (fun y => h.sr b q y) (fun y => by have := thas_lt h.cur.tab q; omega), fun b q => (t.new b q).elim (h.r0 b) (fun y => by have := h.cur.keep.size; omega)⟩
theorem TB.aside (h : TB W w tb s T rb r U bl k) (K : Keep w w' (fun _ => False)) : TB W w' tb s T rb r U bl k :=
  ⟨h.cur.step K, h.ref.aside K, h.up, h.rgood, h.rsmall, h.sr, h.r0⟩
theorem TB.more (h : TB W w tb s T rb r U bl k) (hk : k ≤ k') : TB W w tb s T rb r U bl k' := ⟨h.cur.more hk, h.ref, h.up, h.rgood, h.rsmall.mono hk, h.sr, h.r0⟩

theorem TB.set {xb : Nat} (h : TB W w tb s T rb r U bl k) (K : Keep w w' (fun b => b = xb)) (h1 : ¬ s.has xb) (h2 : ¬ r.has xb) (h3 : W.heap.size ≤ xb) : TB W w' tb s T rb r U bl k :=
  ⟨⟨h.cur.tab.keep K (fun b q z => h1 (by rw [← show b = xb from z]; exact q)), h.cur.keep.trans K (fun b q => .inr (by rw [show b = xb from q]; exact h3)), h.cur.new, h.cur.good, h.cur.small⟩, h.ref.keep K (fun b q z => h2 (by rw [← show b = xb from z]; exact q)), h.up, h.rgood, h.rsmall, h.sr, h.r0⟩

structure AX (w : World) (s : TShape) (r : RShape) (xb : Nat) (x : AskT) : Prop where
  box : w.heap[xb]? = some (.cells (askC x) 35 (0, 0))
  s : ¬ s.has xb
  r : ¬ r.has xb
variable {xb : Nat} {x : AskT}
theorem AX.turn (h : AX w s r xb x) (t : TurnT w s w' s') : AX w' s' r xb x := ⟨t.keep.get h.box h.s, fun q => (t.new _ q).elim h.s (fun y => by have := lt_of_blk h.box; omega), h.r⟩
theorem AX.refs (h : AX w s r xb x) (t : TurnR w r w' r') : AX w' s r' xb x := ⟨t.keep.get h.box h.r, h.s, fun q => (t.new _ q).elim h.r (fun y => by have := lt_of_blk h.box; omega)⟩
theorem AX.aside (h : AX w s r xb x) (K : Keep w w' (fun _ => False)) : AX w' s r xb x := ⟨K.get h.box (fun q => q), h.s, h.r⟩

def TP (W w : World) (tb : Nat) (s : TShape) (T : TreeV) (rb : Nat) (r : RShape) (U : TreeV) (bl k : Int) (xb : Nat) (x : AskT) : Prop := TB W w tb s T rb r U bl k ∧ AX w s r xb x
theorem TP.aside (h : TP W w tb s T rb r U bl k xb x) (K : Keep w w' (fun _ => False)) : TP W w' tb s T rb r U bl k xb x := ⟨h.1.aside K, h.2.aside K⟩
theorem TP.prog (X : TP W w tb s T rb r U bl k xb x) {P : Program} {f : Nat} {a : Array Value} {E : Ending} (hc : ∀ w1, Keep w w1 (fun _ => False) → Calls P f a w1 fun e w2 => e = E ∧ ∃ s', TCur W w2 tb s' T' bl (k + 3) ∧ TurnT w1 s w2 s') :
    ∀ w1, Keep w w1 (fun _ => False) → Calls P f a w1 fun e w2 => e = E ∧ ∃ s', TP W w2 tb s' T' rb r U bl (k + 3) xb x := fun w1 K => by
  refine (hc w1 K).mono ?_
  rintro e w2 ⟨h1, s', c, t⟩
  exact ⟨h1, s', (X.1.aside K).turn c t (by omega), (X.2.aside K).turn t⟩
theorem TP.doc (X : TP W w tb s T rb r U bl k xb x) {P : Program} {f : Nat} {a : Array Value} {E : Ending} (hc : ∀ w1, Keep w w1 (fun _ => False) → Calls P f a w1 fun e w2 => e = E ∧ RTo w1 r rb bl T w2) :
    ∀ w1, Keep w w1 (fun _ => False) → Calls P f a w1 fun e w2 => e = E ∧ ∃ r', TP W w2 tb s T rb r' T bl k xb x := fun w1 K => by
  refine (hc w1 K).mono ?_
  rintro e w2 ⟨h1, r', c, u, t⟩
  exact ⟨h1, r', (X.1.aside K).refs c u t, (X.2.aside K).refs t⟩
end

section
variable {W w : World} {tb : Nat} {s : TShape} {T : TreeV} {bl k : Int} (c : TCur W w tb s T bl k) (hk : k ≤ 900000)
include c hk
theorem setmode_t (n m : Int) (w1 : World) (K : Keep w w1 (fun _ => False)) :
    Calls Tryz.prog 26 #[.pointer (some ⟨tb, 0, none⟩), .int .i64 n, .int .i64 m] w1 fun e w2 => e = .returned (.int .i64 (T.setMode n (maskV m)).2) ∧ ∃ s', TCur W w2 tb s' (T.setMode n (maskV m)).1 bl (k + 3) ∧ TurnT w1 s w2 s' := by
  have c1 := c.step K
  refine (tsetmode_c c1.tab (c1.small.mono hk) n m).mono ?_
  rintro e w2 ⟨rfl, s', h1, h2⟩
  exact ⟨rfl, s', c1.turn h1 h2 (c1.good.setMode ..) (c1.small.setMode ..), h2⟩
theorem setowner_t (n u g : Int) (w1 : World) (K : Keep w w1 (fun _ => False)) :
    Calls Tryz.prog 28 #[.pointer (some ⟨tb, 0, none⟩), .int .i64 n, .int .i64 u, .int .i64 g] w1 fun e w2 => e = .returned (.int .i64 (T.setOwner n u g).2) ∧ ∃ s', TCur W w2 tb s' (T.setOwner n u g).1 bl (k + 3) ∧ TurnT w1 s w2 s' := by
  have c1 := c.step K
  refine (tsetowner_c c1.tab (c1.small.mono hk) n u g).mono ?_
  rintro e w2 ⟨rfl, s', h1, h2⟩
  exact ⟨rfl, s', c1.turn h1 h2 (c1.good.setOwner ..) (c1.small.setOwner ..), h2⟩
theorem cut_t (n z : Int) (w1 : World) (K : Keep w w1 (fun _ => False)) :
    Calls Tryz.prog 32 #[.pointer (some ⟨tb, 0, none⟩), .int .i64 n, .int .i64 z] w1 fun e w2 => e = .returned (.int .i64 (T.cut n z).2) ∧ ∃ s', TCur W w2 tb s' (T.cut n z).1 bl (k + 3) ∧ TurnT w1 s w2 s' := by
  have c1 := c.step K
  refine (tcut_c c1.tab c1.good n z).mono ?_
  rintro e w2 ⟨rfl, s', h1, h2⟩
  exact ⟨rfl, s', c1.turn h1 h2 (c1.good.cut ..) (c1.small.cut ..), h2⟩
theorem write_t (n p : Int) {v : Value} {l : List Int} (hb : BytesIn W v l (fun b => W.heap.size ≤ b)) (hlen : l.length ≤ maxLen) (w1 : World) (K : Keep w w1 (fun _ => False)) :
    Calls Tryz.prog 30 #[.pointer (some ⟨tb, 0, none⟩), .int .i64 n, .int .i64 p, v] w1 fun e w2 => e = .returned (.int .i64 (T.write n p l).2) ∧ ∃ s', TCur W w2 tb s' (T.write n p l).1 bl (k + 3) ∧ TurnT w1 s w2 s' := by
  have c1 := c.step K
  refine (twrite_c c1.tab c1.good n p ((hb.keep c1.keep (fun b q => q.elim)).mono c1.new) hlen).mono ?_
  rintro e w2 ⟨rfl, s', h1, h2⟩
  exact ⟨rfl, s', c1.turn h1 h2 (c1.good.write _ _ hb.1) (c1.small.write ..), h2⟩
end

end Go.Proofs.YtnjfcedkfobbcaaGreat

/-! Both trees tell alike. -/
namespace Go.Proofs.YtnjfcedkfobbcaaGreat
open Go Go.RowKit Go.Shelf
set_option linter.unusedSectionVars false
set_option linter.unusedSimpArgs false
set_option linter.unusedVariables false
set_option maxRecDepth 100000

theorem stne (x : TreeV.StatV) (W : World) : (binOp .neq 32 (.agg (statC x)) (.agg (statC x))).run Tryz.prog W = .ok (.bool false) W := by
  simp [statC, go_sem]

theorem isame_eqT {w : World} {va vb : Value} {a : List Int} (ha : ListIn w va (a.map (Value.int .i64))) (hb : ListIn w vb (a.map (Value.int .i64))) (hl : a.length ≤ 1099511627776) :
    Calls Tryz.prog 34 #[va, vb] w fun r w' => r = .returned (.bool true) ∧ Keep w w' (fun _ => False) := by
  refine (isame_c ha hb hl hl).mono ?_
  rintro e w' ⟨rfl, q, rfl⟩
  exact ⟨by simp, drewN_keep _ _ _⟩
theorem texts_eqT {w : World} {va vb : Value} {a : List ByteArray} (ha : ListIn w va (a.map Value.string)) (hb : ListIn w vb (a.map Value.string)) (hl : a.length ≤ 1099511627776) :
    Calls Tryz.prog 45 #[va, vb] w fun r w' => r = .returned (.bool true) ∧ Keep w w' (fun _ => False) := by
  refine (texts_c ha hb hl hl).mono ?_
  rintro e w' ⟨rfl, q, rfl⟩
  exact ⟨by simp, drewN_keep _ _ _⟩

section
variable {W w : World} {tb rb : Nat} {s : TShape} {r : RShape} {T : TreeV} {bl k : Int} (X : TB W w tb s T rb r T bl k) (hk : k ≤ 900000)
include X hk

theorem names_le (n : Int) : (T.namesAt n).length ≤ 1000000 := by
  unfold TreeV.namesAt
  cases hd : T.dir n with
  | none => simp
  | some x =>
    have := ((X.cur.small.mono hk).node (TreeV.dir_some hd).1).2.2
    simp only [sortedN_len]
    omega

set_option maxHeartbeats 8000000 in
theorem alike_c : Calls Tryz.prog 9 #[.pointer (some ⟨tb, 0, none⟩), .pointer (some ⟨rb, 0, none⟩), .int .i64 80] w fun e w' => e = .returned (.bool true) ∧ Keep w w' (fun _ => False) := by
  have hr := TreeV.rng_of X.rgood.ok (X.rsmall.mono hk) (by decide)
  have hs9 := X.cur.small.mono hk
  have hs1 : T.small 1000000 := hs9.mono (by decide)
  have hups := X.up.ups X.rgood.ok.nodup
  have hsm : ∀ y ∈ T.all, y.2.names.length ≤ 1000000 := fun y hy => by have := (hs9.nodes y hy).2.2; omega
  have hll : T.live.length ≤ 1099511627776 := by have := X.cur.good.ok.room; unfold TreeV.live; simp only [List.length_map, List.length_mergeSort]; omega
  have hnl := names_le X hk
  have l1 := fun w1 (K : Keep w w1 (fun _ => False)) => (tlive_c (X.aside K).cur.tab X.cur.good.ok)
  have l2 := fun w1 (K : Keep w w1 (fun _ => False)) => (rtlive_c (X.aside K).ref hr X.rgood.ok)
  have f1 := fun w1 (K : Keep w w1 (fun _ => False)) => (tleft_c (X.aside K).cur.tab X.cur.good.ok.room)
  have f2 := fun w1 (K : Keep w w1 (fun _ => False)) => (rtleft_c (X.aside K).ref hr X.rgood.ok)
  have HX := Lib.hid X
  have HR := Lib.hid (And.intro hr (And.intro hs1 (And.intro hups (And.intro hsm (And.intro hs9 (And.intro hll hnl))))))
  clear X hr hs9 hs1 hups hsm hll hnl
  have hz1 : (T.left != T.left) = false := by simp
  go_enter Tryz.func9, Tryz.ntmps9
  go_wp2_with (first
    | (go_at_call 35
       refine (l1 _ (Keep.refl _ _)).mono ?_
       rintro e w1 ⟨v1, rfl, o1, k1, -⟩
       have h2 := l2 _ k1
       have L1 := Lib.hid (And.intro (ListIn.of_own o1) k1)
       clear l1 l2 o1 k1)
    | (go_at_call 36
       refine h2.mono ?_
       rintro e w2 ⟨v2, rfl, m2⟩
       have h3 := isame_eqT (L1.out.1.aside m2.keep) m2.list HR.out.2.2.2.2.2.1
       have L2 := Lib.hid (L1.out.2.aside m2.keep)
       clear h2 m2)
    | (go_at_call 34
       refine h3.mono ?_
       rintro e w3 ⟨rfl, k3⟩
       have h4 := f1 _ (L2.out.aside k3)
       have L3 := Lib.hid (L2.out.aside k3)
       clear h3 f1 k3)
    | (go_at_call 37
       refine h4.mono ?_
       rintro e w4 ⟨rfl, k4⟩
       have h5 := f2 _ (L3.out.aside k4)
       have L4 := Lib.hid (L3.out.aside k4)
       clear h4 f2 k4)
    | (go_at_call 38
       refine h5.mono ?_
       rintro e w5 ⟨rfl, k5⟩
       have L5 := Lib.hid (L4.out.aside k5)
       clear h5 k5))
  go_loopg [7] 81 (fun g s7 wr => ∃ j : Nat, s7 = .int .i64 j ∧ j + g = 81 ∧ Keep w wr (fun _ => False))
  case atStart => exact ⟨0, rfl, by omega, L5.out⟩
  case round =>
    obtain ⟨j, rfl, hj, hK⟩ := hrel
    obtain ⟨wo, hwo⟩ : ∃ wo : World, wo = wr := ⟨_, rfl⟩
    subst hwo
    have K0 := Lib.hid hK
    clear hK
    by_cases hle : j ≤ 80
    · have g3 : (j : Int) ≤ 80 := by omega
      obtain ⟨sv, ok, hst⟩ : ∃ sv ok, T.stat j = (sv, ok) := ⟨_, _, rfl⟩
      obtain ⟨l, er, hrd⟩ : ∃ l er, T.pool.read (T.fileOf j) 0 2000 = (l, er) := ⟨_, _, rfl⟩
      obtain ⟨up, hup⟩ : ∃ up, T.upOf j = up := ⟨_, rfl⟩
      obtain ⟨tx, htx⟩ : ∃ tx, T.textOf j = tx := ⟨_, rfl⟩
      obtain ⟨L, hL⟩ : ∃ L, T.namesAt j = L := ⟨_, rfl⟩
      have hLl := HR.out.2.2.2.2.2.2 (j : Int)
      rw [hL] at hLl
      obtain ⟨N, hN⟩ : ∃ N, L.length = N := ⟨_, rfl⟩
      have s1 := fun w1 (K : Keep w w1 (fun _ => False)) => tstat_c (HX.out.aside K).cur.tab HR.out.2.1 (j : Int)
      have s2 := fun w1 (K : Keep w w1 (fun _ => False)) => rtstat_c (HX.out.aside K).ref HR.out.1 HX.out.rgood.ok HR.out.2.1 (j : Int)
      have u1 := fun w1 (K : Keep w w1 (fun _ => False)) => tup_c (HX.out.aside K).cur.tab (j : Int)
      have u2 := fun w1 (K : Keep w w1 (fun _ => False)) => rtup_c (HX.out.aside K).ref HR.out.1 HR.out.2.2.1 (j : Int)
      have t1 := fun w1 (K : Keep w w1 (fun _ => False)) => ttext_c (HX.out.aside K).cur.tab (j : Int)
      have t2 := fun w1 (K : Keep w w1 (fun _ => False)) => rtext_c (HX.out.aside K).ref HR.out.1 (j : Int)
      have n1 := fun w1 (K : Keep w w1 (fun _ => False)) => tnames_c (HX.out.aside K).cur.tab HR.out.2.1 (j : Int)
      have n2 := fun w1 (K : Keep w w1 (fun _ => False)) => rtnames_c (HX.out.aside K).ref HR.out.1 HR.out.2.2.2.1 (j : Int)
      have r1 := fun w1 (K : Keep w w1 (fun _ => False)) => tread_c (HX.out.aside K).cur.tab HX.out.cur.good (j : Int) 0 2000
      have r2 := fun w1 (K : Keep w w1 (fun _ => False)) => rtread_c (HX.out.aside K).ref HX.out.up HX.out.rgood HR.out.2.2.2.2.1 (j : Int) 0 2000
      have fp := fun x w1 (K : Keep w w1 (fun _ => False)) => tfind_c (HX.out.aside K).cur.tab (j : Int) x
      have fd := fun x w1 (K : Keep w w1 (fun _ => False)) => rtfind_c (HX.out.aside K).ref HR.out.1 HX.out.rgood.ok.once HR.out.2.2.2.1 (j : Int) x
      simp only [hst, statC] at s1 s2
      simp only [hrd] at r1 r2
      simp only [hup] at u1 u2
      simp only [htx] at t1 t2
      simp only [hL] at n1 n2
      have FP := Lib.hid (And.intro fp fd)
      have RP := Lib.hid (And.intro r1 r2)
      clear hst hrd hup htx hL fp fd r1 r2
      have q1 := stne sv
      simp only [statC] at q1
      have q2 : (ok != ok) = false := by simp
      have q3 : (up != up) = false := by simp
      have q4 : (tx.toList != tx.toList) = false := by simp
      have q5 : (er != er) = false := by simp
      go_wp2_with (first
        | (go_at_call 39
           refine (s1 _ K0.out).mono ?_
           rintro e w1 ⟨rfl, k1⟩
           have kz := (K0.out.aside k1).aside (Keep.alloc w1 (.cells (statC sv) 32) (fun _ => False))
           have bz := heap_alloc_eq w1 (.cells (statC sv) 32)
           have h2 := s2 _ kz
           have K1 := Lib.hid (And.intro kz bz)
           simp only [statC] at h2
           clear s1 s2 k1 kz bz)
        | (go_at_call 40
           refine h2.mono ?_
           rintro e w2 ⟨rfl, k2⟩
           have ka := k2.aside (Keep.alloc w2 (.cells (statC sv) 32) (fun _ => False))
           have kz := K1.out.1.aside ka
           have b1 : StatAt (w2.alloc (.cells (statC sv) 32)) w1.heap.size sv := ⟨ka.get K1.out.2 (fun q => q)⟩
           have b2 : StatAt (w2.alloc (.cells (statC sv) 32)) w2.heap.size sv := ⟨heap_alloc_eq w2 _⟩
           obtain ⟨y0, y1, y2, y3, y4, y5, y6⟩ := b1.cells
           obtain ⟨z0, z1, z2, z3, z4, z5, z6⟩ := b2.cells
           have h3 := u1 _ kz
           have h4 := u2 _ kz
           have h5 := t1 _ kz
           have h6 := t2 _ kz
           have h7 := n1 _ kz
           have K2 := Lib.hid kz
           simp only [statC] at h3 h4 h5 h6 h7 y0 y1 y2 y3 y4 y5 y6 z0 z1 z2 z3 z4 z5 z6
           clear h2 k2 ka kz b1 b2 u1 u2 t1 t2 n1)
        | (go_at_call 41
           refine h3.mono ?_
           rintro e w3 ⟨rfl, rfl⟩
           clear h3)
        | (go_at_call 42
           refine h4.mono ?_
           rintro e w3 ⟨rfl, rfl⟩
           clear h4)
        | (go_at_call 43
           refine h5.mono ?_
           rintro e w3 ⟨rfl, rfl⟩
           clear h5)
        | (go_at_call 44
           refine h6.mono ?_
           rintro e w3 ⟨rfl, rfl⟩
           clear h6)
        | (go_at_call 46
           refine h7.mono ?_
           rintro e w5 ⟨v5, rfl, o5, k5, -⟩
           have L5 := Lib.hid (ListIn.of_own o5)
           have K5 := Lib.hid (K2.out.aside k5)
           have h8 := n2 _ K5.out
           clear h7 o5 k5)
        | (go_at_call 47
           refine h8.mono ?_
           rintro e w6 ⟨v6, rfl, m6⟩
           have h9 := texts_eqT (L5.out.aside m6.keep) m6.list (by omega)
           have K6 := Lib.hid (K5.out.aside m6.keep)
           clear h8 m6)
        | (go_at_call 45
           refine h9.mono ?_
           rintro e w7 ⟨rfl, k7⟩
           have h10 := n2 _ (K6.out.aside k7)
           have K7 := Lib.hid (K6.out.aside k7)
           clear h9 k7 n2)
        | (go_at_call 47
           refine h10.mono ?_
           rintro e w8 ⟨v8, rfl, m8⟩
           obtain ⟨a8, c8, rfl⟩ := m8.valn (n := N) (by rw [List.length_map]; exact hN)
           have L8 := Lib.hid m8.list
           have K8 := Lib.hid (K7.out.aside m8.keep)
           clear h10 m8))
      go_loopg [13] N (fun g s13 wr => ∃ i : Nat, s13 = .int .i64 i ∧ i + g = N ∧ Keep w8 wr (fun _ => False))
      case atStart => exact ⟨0, rfl, by omega, Keep.refl _ _⟩
      case round =>
        obtain ⟨i, rfl, hi, hKi⟩ := hrel
        obtain ⟨wi, hwi⟩ : ∃ wi : World, wi = wr := ⟨_, rfl⟩
        subst hwi
        have KI := Lib.hid (And.intro hKi (K8.out.aside hKi))
        by_cases hlt : i < N
        · have g4 : (i : Int) < (N : Int) := by omega
          obtain ⟨b, o, rfl, _, f8⟩ := L8.out.some (by simp only [List.length_map]; omega)
          obtain ⟨x, hx⟩ : ∃ x, L[i]? = some x := ⟨_, List.getElem?_eq_getElem (by omega)⟩
          have c1 : wi.cell? ⟨b, o + i, none⟩ = some (.string x) := hKi.cell (f8 i _ (mapGet hx)) (fun q => q)
          obtain ⟨fm, fb, hf⟩ : ∃ fm fb, T.find j x = (fm, fb) := ⟨_, _, rfl⟩
          have p1 := FP.out.1 x wi KI.out.2
          have p2 := FP.out.2 x wi KI.out.2
          rw [hf] at p1 p2
          simp only at p1 p2
          have z1 : (fm != fm) = false := by simp
          have z2 : (fb != fb) = false := by simp
          clear f8 hx hf hKi
          go_wp2_with (first
            | (go_at_call 48
               refine p1.mono ?_
               rintro e w9 ⟨rfl, rfl⟩
               clear p1)
            | (go_at_call 49
               refine p2.mono ?_
               rintro e w9 ⟨rfl, k9⟩
               have K9 := Lib.hid (KI.out.1.aside k9)
               clear p2 k9))
          go_roundg (N - (i + 1))
          case measure => omega
          case rel => exact ⟨i + 1, by go_num, by omega, K9.out⟩
        · have g4 : ¬ (i : Int) < (N : Int) := by omega
          have p1 := RP.out.1 wi KI.out.2
          clear hKi
          go_wp2_with (first
            | (go_at_call 50
               refine p1.mono ?_
               rintro e w9 ⟨v9, rfl, b9, k9⟩
               have p2 := RP.out.2 w9 (KI.out.2.aside k9)
               have B9 := Lib.hid (And.intro b9 (KI.out.2.aside k9))
               clear p1 b9 k9)
            | (go_at_call 51
               refine p2.mono ?_
               rintro e wA ⟨vA, rfl, bA, kA⟩
               have c1 := str_run (P := Tryz.prog) 33 9 Tryz.underlying33 Tryz.underlying5 Tryz.underlying9 (B9.out.1.keep kA (fun _ q => q))
               have c2 := str_run (P := Tryz.prog) 33 9 Tryz.underlying33 Tryz.underlying5 Tryz.underlying9 bA
               generalize strOfNums l = str at c1 c2
               have c3 : (str.toList != str.toList) = false := by simp
               have KA := Lib.hid (B9.out.2.aside kA)
               clear p2 bA kA))
          go_roundg (81 - (j + 1))
          case measure => omega
          case rel => exact ⟨j + 1, by go_num, by omega, KA.out⟩
    · have g3 : ¬ (j : Int) ≤ 80 := by omega
      go_wp2
      go_ret
      exact ⟨rfl, K0.out⟩
end

end Go.Proofs.YtnjfcedkfobbcaaGreat
