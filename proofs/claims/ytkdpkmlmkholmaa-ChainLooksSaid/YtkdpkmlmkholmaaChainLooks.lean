/-
  ChainLooks: a look that goes on while keys are put and dropped.
-/
import Derived.Test.YtkdpkmlmkholmaaChainLooks0
import Derived.Deep.CutRange
import Derived.Deep.CutBlock
import Derived.StillTailTactics
import Derived.Deep.DeepCutAuto
namespace Go.Proofs.Ytkdpkmlmkholmaa
open Go Go.RowKit
set_option linter.unusedSectionVars false
set_option linter.unusedSimpArgs false
set_option linter.unusedVariables false

def asks : List FieldKind := [.int .i64, .str, .int .i64]

/-- The table and the document's one, side by side. -/
structure Both (w0 w : World) (tb rb m : Nat) (S R : Nat → Prop) (T T2 : List Pair) : Prop where
  keep : Keep w0 w (fun _ => False)
  tab : TabAt w tb S m T
  ref : RefAt w rb R T2
  sr : ∀ b, S b → ¬ R b
  s0 : ∀ b, S b → w0.heap.size ≤ b
  r0 : ∀ b, R b → w0.heap.size ≤ b
  sz : ∀ x ∈ T2, x.1.size ≤ 9223372036854775807

theorem Both.chain {w0 w w' : World} {tb rb m : Nat} {S R S' : Nat → Prop} {T T2 T' : List Pair} (h : Both w0 w tb rb m S R T T2) (ht : TabAt w' tb S' m T') (k : Turn w S w' S') : Both w0 w' tb rb m S' R T' T2 :=
  ⟨h.keep.trans k.keep (fun b q => .inr (h.s0 b q)), ht, h.ref.keep k.keep (fun b q z => h.sr b z q), fun b q z => (k.new b q).elim (fun y => h.sr b y z) (fun y => by have := h.ref.lt b z; omega),
    fun b q => (k.new b q).elim (h.s0 b) (fun y => by have := h.keep.size; omega), h.r0, h.sz⟩

theorem Both.refs {w0 w w' : World} {tb rb m : Nat} {S R R' : Nat → Prop} {T T2 T' : List Pair} (h : Both w0 w tb rb m S R T T2) (ht : RefAt w' rb R' T') (k : Turn w R w' R') (hz : ∀ x ∈ T', x.1.size ≤ 9223372036854775807) : Both w0 w' tb rb m S R' T T' :=
  ⟨h.keep.trans k.keep (fun b q => .inr (h.r0 b q)), h.tab.keep k.keep (fun b q z => h.sr b q z), ht, fun b q z => (k.new b z).elim (fun y => h.sr b q y) (fun y => by have := h.tab.lt b q; omega),
    h.s0, fun b q => (k.new b q).elim (h.r0 b) (fun y => by have := h.keep.size; omega), hz⟩

/-- What turns neither of them. -/
theorem Both.aside {w0 w w' : World} {tb rb m : Nat} {S R U : Nat → Prop} {T T2 : List Pair} (h : Both w0 w tb rb m S R T T2) (k : Keep w w' U) (h1 : ∀ b, U b → ¬ S b ∧ ¬ R b ∧ w0.heap.size ≤ b) : Both w0 w' tb rb m S R T T2 :=
  ⟨h.keep.trans k (fun b q => .inr (h1 b q).2.2), h.tab.keep k (fun b q z => (h1 b z).1 q), h.ref.keep k (fun b q z => (h1 b z).2.1 q), h.sr, h.s0, h.r0, h.sz⟩

theorem Both.drewN {w0 w : World} {tb rb m : Nat} {S R : Nat → Prop} {T T2 : List Pair} (h : Both w0 w tb rb m S R T T2) (q : Nat) : Both w0 (w.drewN q) tb rb m S R T T2 :=
  h.aside (U := fun _ => False) (Turn.drewN w _ q).keep (fun _ z => z.elim)

theorem sz_put {T : List Pair} {k : ByteArray} {v : Int} (h : ∀ x ∈ T, x.1.size ≤ 9223372036854775807) (hk : k.size ≤ 9223372036854775807) : ∀ x ∈ (putT T k v).1, x.1.size ≤ 9223372036854775807 := by
  unfold putT
  cases aget T k with
  | some u => exact h
  | none =>
    by_cases hl : 64 ≤ T.length
    · simp only [hl, if_true]; exact h
    · simp only [hl, if_false]
      intro x hx
      rcases List.mem_append.1 hx with hx | hx
      · exact h x hx
      · simp at hx; subst hx; exact hk

theorem sz_drop {T : List Pair} {k : ByteArray} (hn : (T.map Prod.fst).Nodup) (h : ∀ x ∈ T, x.1.size ≤ 9223372036854775807) : ∀ x ∈ (dropT T k).1, x.1.size ≤ 9223372036854775807 := by
  unfold dropT
  cases aget T k with
  | none => exact h
  | some u =>
    intro x hx
    rw [adel_filter hn] at hx
    exact h x (List.mem_filter.1 hx).1

/-- One ask. -/
structure AskIs (w : World) (b o : Nat) (k : Int) (s : ByteArray) (v : Int) : Prop where
  c0 : w.cell? ⟨b, o, none⟩ = some (.int .i64 k)
  c1 : w.cell? ⟨b, o + 1, none⟩ = some (.string s)
  c2 : w.cell? ⟨b, o + 2, none⟩ = some (.int .i64 v)
  sz : s.size ≤ 9223372036854775807

theorem AskIs.keep {w w' : World} {b o : Nat} {k : Int} {s : ByteArray} {v : Int} (h : AskIs w b o k s v) (K : Keep w w' (fun _ => False)) : AskIs w' b o k s v :=
  ⟨K.cell h.c0 (fun q => q), K.cell h.c1 (fun q => q), K.cell h.c2 (fun q => q), h.sz⟩

theorem ask_at {w : World} {a : Option Addr} {len cap : Nat} (h : StructsIs asks w a len cap) {i : Nat} (hi : i < len) :
    ∃ b off k s v, a = some ⟨b, off, none⟩ ∧ AskIs w b (off + i * 3) k s v := by
  obtain ⟨b, off, rfl, _, hf⟩ := h.field (by omega) (by simp [asks])
  obtain ⟨v0, c0, k, rfl, _⟩ := hf i hi 0 (.int .i64) rfl
  obtain ⟨v1, c1, s, rfl, hs⟩ := hf i hi 1 .str rfl
  obtain ⟨v2, c2, v, rfl, _⟩ := hf i hi 2 (.int .i64) rfl
  exact ⟨b, off, k, s, v, rfl, c0, c1, c2, by unfold maxLen at hs; omega⟩

theorem i64_info : ∃ i, Try.prog.info? 2 = some i ∧ i.zero = some (.int .i64 0) ∧ i.size = 1 ∧ i.bytes ≤ 64 := by
  have h : (Try.prog.info? 2).map (fun i => (i.zero, i.size, i.bytes)) = some (some (.int .i64 0), 1, 8) := by kernel_rfl
  cases hh : Try.prog.info? 2 with
  | none => rw [hh] at h; simp at h
  | some i =>
    rw [hh] at h
    simp only [Option.map_some, Option.some.injEq, Prod.mk.injEq] at h
    exact ⟨i, rfl, h.1, h.2.1, by omega⟩

theorem i64_one (xs : List Int) : ∀ u ∈ xs.map (Value.int .i64), u.oneCell' = true := by
  intro u hu
  obtain ⟨x, _, rfl⟩ := List.mem_map.1 hu
  rfl

set_option maxRecDepth 100000 in
set_option maxHeartbeats 8000000 in
theorem looks_walk (n : Int) (a1 : Option Addr) (l1 c1 : Nat) (key : ByteArray) (a3 : Option Addr) (l3 c3 : Nat) (w : World) (hs : key.size ≤ 9223372036854775807) (h1 : StructsIs asks w a1 l1 c1) (h3 : StructsIs asks w a3 l3 c3) :
    Calls Try.prog 3 #[.int .i64 n, .slice a1 l1 c1, .string key, .slice a3 l3 c3] w fun r w' => r = .returned (.bool true) ∧ Below w.heap.size w w' := by
  have H := Lib.hid (And.intro h1 h3)
  have hl1 : l1 ≤ 9223372036854775807 := by have := h1.cap; have e := this.1; have e2 := this.2; unfold maxLen at e2; omega
  have hl3 : l3 ≤ 9223372036854775807 := by have := h3.cap; have e := this.1; have e2 := this.2; unfold maxLen at e2; omega
  clear h1 h3
  go_enter Try.func3, Try.ntmps3
  go_upto_block 0 with (first
    | (go_at_call 7
       refine (within_c _ _ 0 3 (by omega) (by omega) (by omega)).mono ?_
       rintro e w1 ⟨m0, hm0, hm1, rfl, rfl⟩
       obtain ⟨m, rfl⟩ : ∃ m : Nat, m0 = (m : Int) := ⟨m0.toNat, by omega⟩
       have hnew := new_c w (1 + m) (by omega) (by omega))
    | (go_at_call 8
       refine hnew.mono ?_
       rintro e w2 ⟨tb, S1, rfl, hT1, hK1⟩
       have B1 := Lib.hid (And.intro hT1 hK1)
       clear hT1 hK1 hnew
       have hrn := rnew_c w2)
    | (go_at_call 9
       refine hrn.mono ?_
       rintro e w3 ⟨rb, R1, rfl, hR1, hK2, hF⟩
       have B2 := Lib.hid (And.intro hR1 (And.intro hK2 hF))
       clear hR1 hK2 hrn hF))
  have B0 : ∃ S R, Both w w3 tb rb (1 + m) S R [] [] := by
    obtain ⟨hT1, hK1⟩ := B1.out
    obtain ⟨hR1, hK2, hF⟩ := B2.out
    have hsz := hK1.keep.size
    refine ⟨S1, R1, ⟨hK1.keep.trans hK2.keep (fun _ q => q.elim), hT1.keep hK2.keep (fun _ _ q => q), hR1, fun b q z => ?_, fun b q => (hK1.new b q).elim (fun z => z.elim) id, fun b q => by have := hF b q; omega, by simp⟩⟩
    have := hT1.lt b q
    have := hF b z
    omega
  have BB := Lib.hid B0
  clear B0 B1 B2
  go_cut [] from 12 to 98 (fun wx => ∃ S R T, Both w wx tb rb (1 + m) S R T T)
  case first =>
    go_wp2_with fail
    go_loopg [12] 40 (fun g s12 wr => ∃ (j : Nat) (S R : Nat → Prop) (T : List Pair), j ≤ 40 ∧ g = 40 - j ∧ s12 = .int .i64 j ∧ Both w wr tb rb (1 + m) S R T T)
    case atStart =>
      obtain ⟨S, R, hB⟩ := BB.out
      exact ⟨0, S, R, [], by omega, rfl, rfl, hB⟩
    case round =>
      obtain ⟨j, S, R, T, hj, rfl, rfl, hB⟩ := hrel
      have B := Lib.hid hB
      clear hB
      by_cases hlt : j < l1
      · have hlt' : (j : Int) < (l1 : Int) := by omega
        by_cases hlt4 : j < 40
        · obtain ⟨b, off, k, s, v, rfl, hA⟩ := ask_at H.out.1 hlt
          have HA := Lib.hid hA
          obtain ⟨c0, c1, c2, hsz⟩ := hA.keep B.out.keep
          clear hA
          have hlt4' : (j : Int) < 40 := by omega
          by_cases hk2 : k = 2
          · subst hk2
            have hdr := drop_c B.out.tab s hsz
            go_wp2_with (first
              | (go_at_call 10
                 refine hdr.mono ?_
                 rintro e w4 ⟨rfl, S', hT', hK', _⟩
                 have N1 := Lib.hid (B.out.chain hT' hK')
                 obtain ⟨d0, d1, d2, _⟩ := HA.out.keep N1.out.keep
                 have hrd := rdrop_c N1.out.ref s
                 clear hdr hT' hK')
              | (go_at_call 11
                 refine hrd.mono ?_
                 rintro e w5 ⟨rfl, R', hR', hK'⟩
                 have N2 := Lib.hid (N1.out.refs hR' hK' (sz_drop B.out.tab.nodup N1.out.sz))
                 clear hrd hR' hK'))
            go_roundg (40 - (j + 1))
            case measure => omega
            case rel => exact ⟨j + 1, S', R', _, by omega, rfl, rfl, N2.out⟩
          · have g2 : (k == 2) = false := by simpa using hk2
            go_wp2
            go_still_tail 11, (by kernel_rfl)
            change wpList _ _ _ _ _ (wr.drewN 1)
            obtain ⟨w8, hw8⟩ : ∃ w8, w8 = wr.drewN 1 := ⟨_, rfl⟩
            rw [← hw8]
            have B8 := Lib.hid (show Both w w8 tb rb (1 + m) S R T T from by rw [hw8]; exact B.out.drewN 1)
            have hpt := put_c B8.out.tab s v hsz
            clear hw8 c0 c1 c2
            go_wp2_with (
              go_at_call 12
              refine hpt.mono ?_
              rintro e w4 ⟨rfl, S', hT', hK', _⟩
              have N1 := Lib.hid (B8.out.chain hT' hK')
              obtain ⟨d0, d1, d2, _⟩ := HA.out.keep N1.out.keep
              clear hpt hT' hK')
            go_still_tail 11, (by kernel_rfl)
            change wpList _ _ _ _ _ (w4.drewN 1)
            obtain ⟨w9, hw9⟩ : ∃ w9, w9 = w4.drewN 1 := ⟨_, rfl⟩
            rw [← hw9]
            have B9 := Lib.hid (show Both w w9 tb rb (1 + m) S' R (putT T s v).1 T from by rw [hw9]; exact N1.out.drewN 1)
            have hrp := rput_c B9.out.ref s v
            clear hw9 d0 d1 d2
            go_wp2_with (
              go_at_call 13
              refine hrp.mono ?_
              rintro e w5 ⟨rfl, R', hR', hK'⟩
              have N2 := Lib.hid (B9.out.refs hR' hK' (sz_put B9.out.sz hsz))
              clear hrp hR' hK')
            go_roundg (40 - (j + 1))
            case measure => omega
            case rel => exact ⟨j + 1, S', R', _, by omega, rfl, rfl, N2.out⟩
        · have hlt4' : ¬ (j : Int) < 40 := by omega
          go_wp2
          go_meet
          case rel => exact ⟨S, R, T, B.out⟩
      · have hlt' : ¬ (j : Int) < (l1 : Int) := by omega
        go_wp2
        go_meet
        case rel => exact ⟨S, R, T, B.out⟩
  case rest => 
    obtain ⟨S, R, T, hB⟩ := hcut
    have B := Lib.hid hB
    clear hB
    have hin := rin_c B.out.ref (1 + m) (hashOf key % (1 + m)) (by omega) (by omega) B.out.sz
    have hh := ref_hash_c key
    have hH := hashOf_lt key
    have eB := Lib.hid (show (chainOf T (1 + m) (bucket (1 + m) key)).length = inT T (1 + m) (hashOf key % (1 + m)) from chain_len T (1 + m) (by omega) key)
    generalize hashOf key = HK at *
    have e2 : HK.tmod (1 + m) = HK % (1 + m) := Int.tmod_eq_emod_of_nonneg (by omega)
    have e3 : 0 ≤ HK % (1 + m) := Int.emod_nonneg _ (by omega)
    have e4 : HK % (1 + m) < 1 + m := Int.emod_lt_of_pos _ (by omega)
    have e5 : ((1 : Int) + m) % 4294967296 = 1 + m := by omega
    have hnT : inT T (1 + m) (HK % (1 + m)) ≤ 64 := Nat.le_trans List.countP_le_length B.out.ref.len
    generalize hIN : inT T (1 + m) (HK % (1 + m)) = IN at *
    clear hIN
    go_upto_if 125 with (first
      | (go_at_call 14
         refine (hh _ hs).mono ?_
         rintro e w4 ⟨rfl, rfl⟩)
      | (go_at_call 15
         refine hin.mono ?_
         rintro e w4 ⟨rfl, q, hw4⟩
         have B4 := Lib.hid (show Both w w4 tb rb (1 + m) S R T T from by rw [hw4]; exact B.out.drewN q)
         have hlk := look_c B4.out.tab key hs
         clear hw4 hin)
      | (go_at_call 16
         refine hlk.mono ?_
         rintro e w5 ⟨lb, o, P, rfl, hlb, hk5, hL, hP, hPv, hPS⟩
         have B5 := Lib.hid (B4.out.aside hk5 (fun _ q => q.elim))
         have L5 := Lib.hid (And.intro hlb (And.intro hk5 (And.intro hL (And.intro hP (And.intro hPv hPS)))))
         have hgt := rget_c B5.out.ref key
         clear hlk hlb hk5 hL hP hPv hPS)
      | (go_at_call 17
         refine hgt.mono ?_
         rintro e w6 ⟨rfl, q6, hw6⟩
         have B6 := Lib.hid (show Both w w6 tb rb (1 + m) S R T T from by rw [hw6]; exact B5.out.drewN q6)
         have K6 := Lib.hid (show Keep w5 w6 (fun _ => False) from by rw [hw6]; exact (Turn.drewN w5 (fun _ => False) q6).keep)
         clear hgt hw6))
    go_cut [20] from 126 to 129 (fun s wx => ∃ (sa : Option Addr) (n cap : Nat) (xs : List Int), s = .slice sa n cap ∧ n = xs.length ∧ wx.ownsRow 0 2 1 (.slice sa n cap) n (xs.map (Value.int .i64)) ∧ (∀ v, aget T key = some v → xs[0]? = some v) ∧ Keep w6 wx (fun _ => False) ∧ (∀ b, (Value.slice sa n cap).ownBlock = some b → w6.heap.size ≤ b) ∧ n ≤ 1)
    case first =>
      generalize hA : aget T key = A at *
      obtain ⟨ti, ti1, ti2, ti3, ti4⟩ := i64_info
      have HI := Lib.hid (And.intro ti1 (And.intro ti2 (And.intro ti3 ti4)))
      clear ti1 ti2 ti3 ti4 hA
      have hz1 : (Value.int .i64 0).cells.size = 1 := rfl
      obtain ⟨w7, hw7⟩ : ∃ w7, w7 = w6.alloc (.cells #[] 2) := ⟨_, rfl⟩
      have E7 := Lib.hid (show w7.heap[w6.heap.size]? = some (.cells #[] 2 (0, 0)) ∧ Keep w6 w7 (fun _ => False) from by rw [hw7]; exact ⟨heap_alloc_eq _ _, Keep.alloc _ _ _⟩)
      cases A with
      | none =>
        go_wp2
        go_meet
        case rel =>
          rw [← hw7]
          exact ⟨_, 0, 0, [], rfl, rfl, rows_empty E7.out.1, by simp, E7.out.2, fun b q => by simp [Value.ownBlock] at q; omega, by omega⟩
      | some u =>
        rw [← hw7]
        clear hw7
        go_wp2_with (
          at_builtin
          refine law_append_row (v := .slice (some ⟨w6.heap.size, 0, none⟩) 0 0) rfl _ _ _ rfl Try.underlying45 HI.out.1 HI.out.2.1 HI.out.2.2.1 HI.out.2.2.2 hz1 (by omega) rfl (rows_keep (rows_empty E7.out.1) (Keep.alloc _ _ (fun _ => False)) (fun _ _ q => q)) [.int .i64 u] rfl rfl (.inr ⟨_, rfl, cells_new _ _ _⟩) (i64_one [u]) (by omega) ?_
          intro sa2 cap2 w8 ho hk hf2
          have N := Lib.hid (And.intro ho (And.intro hk hf2))
          clear ho hk hf2)
        go_meet
        case rel =>
          obtain ⟨ho, hk, hf2⟩ := N.out
          have hsz := E7.out.2.size
          refine ⟨sa2, 1, cap2, [u], rfl, rfl, ho, by simp, ?_, fun b q => ?_, by omega⟩
          · exact (E7.out.2.trans (Keep.alloc _ _ (fun _ => False)) (fun _ q => q.elim)).trans hk (fun b q => .inr (by
              have : b = w6.heap.size := by simpa [Value.ownBlock] using q
              omega))
          · rcases hf2 b q with q | q
            · have : w6.heap.size = b := by simpa [Value.ownBlock] using q
              omega
            · rw [q]; simp; omega
    case rest =>
      obtain ⟨sa, nn, cap, xs, rfl, hnn, hrow, hx0, hk7, hown, hn1⟩ := hcut
      subst hnn
      have L0 : LW w wc tb rb (1 + m) lb key S R T T ⟨false, false, 0, 0⟩ P (.slice sa xs.length cap) xs := by
        obtain ⟨hlb, hk5, hL, hP, hPv, hPS⟩ := L5.out
        have k57 := K6.out.trans hk7 (fun _ q => q.elim)
        have b7 := B6.out.aside hk7 (fun _ q => q.elim)
        have hlb5 := lt_of_blk hL
        have hs5 := k57.size
        have hs6 := K6.out.size
        refine ⟨b7.keep, b7.tab, b7.ref, ⟨o, k57.get hL (fun q => q), hP.keep k57 (fun _ _ q => q)⟩, hrow, b7.sr, b7.s0, b7.r0, b7.sz, ⟨fun q => ?_, fun q => ?_, ?_⟩, fun x hx => b7.sr _ (hPS x hx), fun b q => ?_⟩
        · have := B4.out.tab.lt _ q; omega
        · have := B4.out.ref.lt _ q; omega
        · have := B4.out.keep.size; omega
        · have h1 := hown b q
          have h2 := B6.out.keep.size
          exact ⟨fun z => by have := B6.out.tab.lt b z; omega, fun z => by have := B6.out.ref.lt b z; omega, by omega, by omega⟩
      have I0 : Inv key (chainOf T (1 + m) (bucket (1 + m) key)) T (aget T key).isSome (!(aget T key).isSome) ⟨false, false, 0, 0⟩ P T := Inv.start (by omega) L5.out.2.2.2.2.1
      have D0 := Lib.hid (And.intro L0 (And.intro I0 hx0))
      have hC0 := Lib.hid (chain_key (key := key) (i := bucket (1 + m) key) B4.out.tab.nodup (M := 1 + m))
      clear L0 I0 hx0 hrow hk7 hown L5 B5 B6 K6 B4
      generalize hC : chainOf T (1 + m) (bucket (1 + m) key) = C0 at *
      generalize hA : aget T key = A at *
      have HA := Lib.hid hA
      clear hA
      go_upto_block 2 with (fail)
      go_cut [14, 15, 16, 18, 19, 20, 21] from 14 to 221 (fun s14 s15 s16 s18 s19 s20 s21 wx => ∃ (mo : Int) (al nv : Bool) (S R : Nat → Prop) (T1 : List Pair) (V : LookV) (P : List (Nat × Pair)) (sa : Option Addr) (cap : Nat) (xs : List Int),
        s14 = .int .i64 mo ∧ s15 = .pointer (some ⟨lb, 0, none⟩) ∧ s16 = .int .i64 (A.getD 0) ∧ s18 = .bool al ∧ s19 = .bool nv ∧ s20 = .slice sa xs.length cap ∧ s21 = .bool V.over ∧ (IN : Int) + 2 ≤ mo ∧ mo ≤ 1000 ∧
        LW w wx tb rb (1 + m) lb key S R T1 T1 V P (.slice sa xs.length cap) xs ∧ Inv key C0 T al nv V P T1 ∧ (∀ v, A = some v → xs[0]? = some v) ∧ xs.length ≤ 100)
      case first => as_aux_lemma =>
        -- {{
        go_wp2_with fail
        go_loopg [14, 18, 19, 20, 21, 22] 80 (fun g s14 s18 s19 s20 s21 s22 wx => ∃ (j : Nat) (mo : Int) (al nv : Bool) (S R : Nat → Prop) (T1 : List Pair) (V : LookV) (P : List (Nat × Pair)) (sa : Option Addr) (cap : Nat) (xs : List Int),
          j ≤ 80 ∧ g = 80 - j ∧ s22 = .int .i64 j ∧ s14 = .int .i64 mo ∧ s18 = .bool al ∧ s19 = .bool nv ∧ s20 = .slice sa xs.length cap ∧ s21 = .bool V.over ∧ (IN : Int) + 2 ≤ mo ∧ mo ≤ 66 + j ∧
          LW w wx tb rb (1 + m) lb key S R T1 T1 V P (.slice sa xs.length cap) xs ∧ Inv key C0 T al nv V P T1 ∧ (∀ v, A = some v → xs[0]? = some v) ∧ xs.length ≤ 1 + j)
        case atStart =>
          exact ⟨0, _, _, _, S, R, T, _, P, sa, cap, xs, by omega, rfl, rfl, rfl, rfl, rfl, rfl, rfl, by omega, by omega, D0.out.1, by simpa using D0.out.2.1, D0.out.2.2, by omega⟩
        case round =>
          obtain ⟨j, mo, al, nv, S2, R2, T1, V, P2, sa2, cap2, xs2, hj, rfl, rfl, rfl, rfl, rfl, rfl, rfl, hmo, hmo2, hL, hI, hX, hxl⟩ := hrel
          have D := Lib.hid (And.intro hL (And.intro hI hX))
          clear hL hI hX
          by_cases hgo : j < l3 ∧ j < 80 ∧ V.over = false
          · obtain ⟨hg1, hg2, hg3⟩ := hgo
            obtain ⟨b, off, k, s, u, rfl, hA9⟩ := ask_at H.out.2 hg1
            obtain ⟨c0, c1', c2, hsz⟩ := hA9.keep D.out.1.keep
            have hg1' : (j : Int) < (l3 : Int) := by omega
            have hg2' : (j : Int) < 80 := by omega
            clear hA9
            obtain ⟨wo, rfl⟩ : ∃ wo : World, wo = wr := ⟨_, rfl⟩
            have hCl : C0.length ≤ 64 := by rw [eB.out]; exact hnT
            go_upto_block 4 with (fail)
            have hbox0 : Box (wo.alloc (.cells #[.int .i64 k, .string s, .int .i64 u] 31)) S2 R2 lb wo.heap.size k s u := by
              refine ⟨heap_alloc_eq _ _, fun q => ?_, fun q => ?_, fun q => ?_⟩
              · have := D.out.1.tab.lt _ q; omega
              · have := D.out.1.ref.lt _ q; omega
              · obtain ⟨_, hL, _⟩ := D.out.1.look
                have := lt_of_blk hL
                omega
            have B1 := Lib.hid hbox0
            have L1 := Lib.hid (D.out.1.aside (Keep.alloc wo (.cells #[.int .i64 k, .string s, .int .i64 u] 31) _))
            have e0 := cell_blk hbox0.box 0
            have e1 := cell_blk hbox0.box 1
            have e6 := cell_blk hbox0.box 2
            clear hbox0 c0 c1' c2
            obtain ⟨wa, hwa⟩ : ∃ wa, wa = wo.alloc (.cells #[.int .i64 k, .string s, .int .i64 u] 31) := ⟨_, rfl⟩
            rw [← hwa] at e0 e1 e6 B1 L1 ⊢
            clear hwa
            simp only [List.getElem?_toArray, List.getElem?_cons_zero, List.getElem?_cons_succ] at e0 e1 e6
            go_cut [14, 21] (fun s14 s21 wx => ∃ (mo' : Int) (S3 R3 : Nat → Prop) (T3 : List Pair) (V3 : LookV) (P3 : List (Nat × Pair)), s14 = .int .i64 mo' ∧ s21 = .bool V3.over ∧ mo ≤ mo' ∧ mo' ≤ mo + 1 ∧
              LW w wx tb rb (1 + m) lb key S3 R3 T3 T3 V3 P3 (.slice sa2 xs2.length cap2) xs2 ∧ Box wx S3 R3 lb wo.heap.size k s u ∧ Mid key C0 T al nv V3 P3 T3 ∧ (k ≠ 1 → k ≠ 2 → Inv key C0 T al nv V3 P3 T3))
            case first => as_aux_lemma =>
              by_cases hk1 : k = 1
              · subst hk1
                have hpt := put_c L1.out.tab s u hsz
                have hsh := fun w => ref_hash_c s w hsz
                have hHS := hashOf_lt s
                generalize hashOf s = HS at *
                have f2 : HS.tmod (1 + m) = HS % (1 + m) := Int.tmod_eq_emod_of_nonneg (by omega)
                have f3 : 0 ≤ HS % (1 + m) := Int.emod_nonneg _ (by omega)
                have f4 : HS % (1 + m) < 1 + m := Int.emod_lt_of_pos _ (by omega)
                generalize hpr : (putT T1 s u).2 = pr at *
                have HPR := Lib.hid hpr
                clear hpr
                have hcase : pr ≠ 0 ∨ (pr = 0 ∧ HS % (1 + m) = HK % (1 + m)) ∨ (pr = 0 ∧ HS % (1 + m) ≠ HK % (1 + m)) := by omega
                rcases hcase with h0 | ⟨h0, hq⟩ | ⟨h0, hq⟩
                all_goals
                  have h0' : (pr == 0) = decide (pr = 0) := by by_cases h : pr = 0 <;> simp [h]
                  go_wp2_with (first
                    | (go_at_call 12
                       refine hpt.mono ?_
                       rintro e w4 ⟨rfl, S', hT', hK', hSeg⟩
                       have N1 := Lib.hid (show LW w w4 tb rb (1 + m) lb key S' R2 (putT T1 s u).1 T1 V P2 (.slice sa2 xs2.length cap2) xs2 ∧ Box w4 S' R2 lb wo.heap.size 1 s u from by
                         obtain ⟨o9, hL9, hP9⟩ := L1.out.look
                         exact ⟨L1.out.chain hT' hK' hL9 (hSeg o9 P2 hP9) (fun _ q => q), B1.out.chain hK'⟩)
                       have i1 := cell_blk N1.out.2.box 1
                       have i2 := cell_blk N1.out.2.box 2
                       simp only [List.getElem?_toArray, List.getElem?_cons_zero, List.getElem?_cons_succ] at i1 i2
                       have hrp := rput_c N1.out.1.ref s u
                       rw [HPR.out] at hrp
                       clear hpt hT' hK' hSeg)
                    | (go_at_call 13
                       refine hrp.mono ?_
                       rintro e w5 ⟨rfl, R', hR', hK'⟩
                       have N2 := Lib.hid (And.intro (N1.out.1.refs hR' hK' (sz_put N1.out.1.sz hsz)) (N1.out.2.refs hK'))
                       have i4 := cell_blk N2.out.2.box 1
                       simp only [List.getElem?_toArray, List.getElem?_cons_zero, List.getElem?_cons_succ] at i4
                       clear hrp hR' hK')
                    | (go_at_call 14
                       refine (hsh _).mono ?_
                       rintro e w6 ⟨rfl, rfl⟩))
                  go_meet
                  case rel => exact ⟨_, S', R', _, V, P2, rfl, by rw [hg3], by omega, by omega, N2.out.1, N2.out.2, D.out.2.1.put _, fun a _ => absurd rfl a⟩
              · have g1 : (k == 1) = false := by simpa using hk1
                by_cases hk2 : k = 2
                · subst hk2
                  have hdr := drop_c L1.out.tab s hsz
                  go_wp2_with (first
                    | (go_at_call 10
                       refine hdr.mono ?_
                       rintro e w4 ⟨rfl, S', hT', hK', hSeg⟩
                       obtain ⟨P3, N1⟩ : ∃ P3, (LW w w4 tb rb (1 + m) lb key S' R2 (dropT T1 s).1 T1 V P3 (.slice sa2 xs2.length cap2) xs2 ∧ Box w4 S' R2 lb wo.heap.size 2 s u) ∧ P3.Sublist P2 ∧ ∀ y ∈ P2, y.2.1 ≠ s → y ∈ P3 := by
                         obtain ⟨o9, hL9, hP9⟩ := L1.out.look
                         obtain ⟨P', q1, q2, q3⟩ := hSeg o9 P2 hP9
                         exact ⟨P', ⟨L1.out.chain hT' hK' hL9 q1 (fun _ q => q2.subset q), B1.out.chain hK'⟩, q2, q3⟩
                       have N1 := Lib.hid N1
                       have i1 := cell_blk N1.out.1.2.box 1
                       simp only [List.getElem?_toArray, List.getElem?_cons_zero, List.getElem?_cons_succ] at i1
                       have hrd := rdrop_c N1.out.1.1.ref s
                       clear hdr hT' hK' hSeg)
                    | (go_at_call 11
                       refine hrd.mono ?_
                       rintro e w5 ⟨rfl, R', hR', hK'⟩
                       have N2 := Lib.hid (And.intro (N1.out.1.1.refs hR' hK' (sz_drop D.out.1.tab.nodup N1.out.1.1.sz)) (N1.out.1.2.refs hK'))
                       clear hrd hR' hK'))
                  go_meet
                  case rel => exact ⟨mo, S', R', _, V, P3, rfl, by rw [hg3], by omega, by omega, N2.out.1, N2.out.2, D.out.2.1.drop D.out.1.tab.nodup s N1.out.2.1 N1.out.2.2, fun _ a => absurd rfl a⟩
                · have g2 : (k == 2) = false := by simpa using hk2
                  obtain ⟨o9, hL9, hP9⟩ := L1.out.look
                  have hst := step_c hL9 hg3 D.out.2.1.st0 (by have := D.out.2.1.st1 hg3; omega) hP9
                  clear hL9 hP9
                  go_wp2_with (
                    go_at_call 18
                    refine hst.mono ?_
                    rintro e w4 ⟨rfl, o', q1, q2, q3⟩
                    have N2 := Lib.hid (And.intro (L1.out.step q1 q2 q3 (stepL_mem key V P2)) (B1.out.step q3))
                    clear hst q1 q2 q3)
                  have I9 := D.out.2.1.step hg3 (fun x hx hk => by rw [HA.out]; exact hC0.out x hx hk)
                  go_meet
                  case rel => exact ⟨mo, S2, R2, T1, _, _, rfl, rfl, by omega, by omega, N2.out.1, N2.out.2, I9.toMid, fun _ _ => I9⟩
            case rest => as_aux_lemma =>
              obtain ⟨mo', S3, R3, T3, V3, P3, rfl, rfl, hm1, hm2, hL3, hB3, hM3, hI3⟩ := hcut
              have D3 := Lib.hid (And.intro hL3 (And.intro hB3 (And.intro hM3 hI3)))
              have hrg := rget_c hL3.ref key
              clear L1 B1 e0 e1 e6 hL3 hB3 hM3 hI3
              obtain ⟨wo2, rfl⟩ : ∃ w2 : World, w2 = wc := ⟨_, rfl⟩
              have hkk : (k = 1 ∨ k = 2) ∨ (k ≠ 1 ∧ k ≠ 2) := by omega
              rcases hkk with hk | ⟨hka, hkb⟩
              · have hN := D3.out.2.2.1.note
                rw [HA.out] at hN
                generalize aget T3 key = G at *
                have HN := Lib.hid hN
                clear hN
                obtain ⟨ti, ti1, ti2, ti3, ti4⟩ := i64_info
                have HI := Lib.hid (And.intro ti1 (And.intro ti2 (And.intro ti3 ti4)))
                clear ti1 ti2 ti3 ti4
                have hz1 : (Value.int .i64 0).cells.size = 1 := rfl
                rcases hk with rfl | rfl
                all_goals
                  cases G with
                  | none =>
                    cases al
                    all_goals
                      cases nv
                      all_goals
                        go_wp2_with (
                          go_at_call 17
                          refine hrg.mono ?_
                          rintro e w7 ⟨rfl, q7, hw7⟩
                          have D7 := Lib.hid (show LW w w7 tb rb (1 + m) lb key S3 R3 T3 T3 V3 P3 (.slice sa2 xs2.length cap2) xs2 ∧ Box w7 S3 R3 lb wo.heap.size _ s u from by
                            rw [hw7]; exact ⟨D3.out.1.drewN q7, D3.out.2.1.aside (Turn.drewN _ (fun _ => False) q7).keep⟩)
                          have hc7 := cell_blk D7.out.2.box 0
                          simp only [List.getElem?_toArray, List.getElem?_cons_zero] at hc7
                          clear hrg hw7)
                        go_roundg (80 - (j + 1))
                        case measure => omega
                        case rel => exact ⟨j + 1, mo', _, _, S3, R3, T3, V3, P3, sa2, cap2, xs2, by omega, rfl, rfl, rfl, rfl, rfl, rfl, rfl, by omega, by omega, D7.out.1, HN.out, D.out.2.2, by omega⟩
                  | some g =>
                    cases al
                    all_goals
                      cases nv
                      all_goals
                        go_wp2_with (first
                          | (go_at_call 17
                             refine hrg.mono ?_
                             rintro e w7 ⟨rfl, q7, hw7⟩
                             have D7 := Lib.hid (show LW w w7 tb rb (1 + m) lb key S3 R3 T3 T3 V3 P3 (.slice sa2 xs2.length cap2) xs2 ∧ Box w7 S3 R3 lb wo.heap.size _ s u from by
                               rw [hw7]; exact ⟨D3.out.1.drewN q7, D3.out.2.1.aside (Turn.drewN _ (fun _ => False) q7).keep⟩)
                             have hc7 := cell_blk D7.out.2.box 0
                             simp only [List.getElem?_toArray, List.getElem?_cons_zero] at hc7
                             clear hrg hw7)
                          | (at_builtin
                             refine law_append_row (v := .slice sa2 xs2.length cap2) rfl _ _ _ rfl Try.underlying45 HI.out.1 HI.out.2.1 HI.out.2.2.1 HI.out.2.2.2 hz1 (by omega) rfl (rows_keep D7.out.1.row (Keep.alloc _ _ (fun _ => False)) (fun _ _ q => q)) [.int .i64 g] rfl rfl (.inr ⟨_, rfl, cells_new _ _ _⟩) (i64_one [g]) (by omega) ?_
                             intro sa8 cap8 w8 ho8 hk8 hf8
                             have N8 := Lib.hid (And.intro ho8 (And.intro hk8 hf8))
                             clear ho8 hk8 hf8))
                        go_roundg (80 - (j + 1))
                        case measure => omega
                        case rel =>
                          obtain ⟨n1, n2, n3⟩ := N8.out
                          have hw9 := (D7.out.1.aside (Keep.alloc w7 (.cells #[.int .i64 g] 2) (fun _ => False))).noted (v' := .slice sa8 (xs2.length + 1) cap8) (ys := xs2 ++ [g]) (by simpa using n1) n2 (fun b q => (n3 b q).imp id (fun z => by rw [z]; exact Nat.le_refl _))
                          exact ⟨j + 1, mo', _, _, S3, R3, T3, V3, P3, sa8, cap8, xs2 ++ [g], by omega, rfl, rfl, rfl, rfl, rfl, by simp, rfl, by omega, by omega, by simpa using hw9, HN.out, fun v q => by
                            have z := D.out.2.2 v q
                            rw [List.getElem?_append_left (by
                              rcases xs2 with _ | ⟨y, r⟩
                              · simp at z
                              · simp)]
                            exact z, by simp; omega⟩
              · have ga : (k == 1) = false := by simpa using hka
                have gb : (k == 2) = false := by simpa using hkb
                go_wp2_with (
                  go_at_call 17
                  refine hrg.mono ?_
                  rintro e w7 ⟨rfl, q7, hw7⟩
                  have D7 := Lib.hid (show LW w w7 tb rb (1 + m) lb key S3 R3 T3 T3 V3 P3 (.slice sa2 xs2.length cap2) xs2 ∧ w7.cell? ⟨wo.heap.size, 0, none⟩ = some (.int .i64 k) from by
                    rw [hw7]; exact ⟨D3.out.1.drewN q7, by simpa using cell_blk D3.out.2.1.box 0⟩)
                  have hc7 := D7.out.2
                  clear hrg hw7)
                go_roundg (80 - (j + 1))
                case measure => omega
                case rel => exact ⟨j + 1, mo', _, _, S3, R3, T3, V3, P3, sa2, cap2, xs2, by omega, rfl, rfl, rfl, rfl, rfl, rfl, rfl, by omega, by omega, D7.out.1, D3.out.2.2.2 hka hkb, D.out.2.2, by omega⟩
          · have hout : ¬ j < l3 ∨ (j < l3 ∧ ¬ j < 80) ∨ (j < l3 ∧ j < 80 ∧ V.over = true) := by
              cases ho : V.over with
              | true => simp only [and_true]; omega
              | false => rw [ho] at hgo; simp only [and_true] at hgo; omega
            rcases hout with q1 | ⟨q1, q2⟩ | ⟨q1, q2, q3⟩
            · have q1' : ¬ (j : Int) < (l3 : Int) := by omega
              go_wp2
              go_meet
              case rel => exact ⟨mo, al, nv, S2, R2, T1, V, P2, sa2, cap2, xs2, rfl, rfl, rfl, rfl, rfl, rfl, rfl, by omega, by omega, D.out.1, D.out.2.1, D.out.2.2, by omega⟩
            · have q1' : (j : Int) < (l3 : Int) := by omega
              have q2' : ¬ (j : Int) < 80 := by omega
              go_wp2
              go_meet
              case rel => exact ⟨mo, al, nv, S2, R2, T1, V, P2, sa2, cap2, xs2, rfl, rfl, rfl, rfl, rfl, rfl, rfl, by omega, by omega, D.out.1, D.out.2.1, D.out.2.2, by omega⟩
            · have q1' : (j : Int) < (l3 : Int) := by omega
              have q2' : (j : Int) < 80 := by omega
              go_wp2
              go_meet
              case rel => exact ⟨mo, al, nv, S2, R2, T1, V, P2, sa2, cap2, xs2, rfl, rfl, rfl, rfl, rfl, rfl, by rw [q3], by omega, by omega, D.out.1, D.out.2.1, D.out.2.2, by omega⟩
        -- }}
      case rest => as_aux_lemma =>
        obtain ⟨mo, al, nv, S2, R2, T1, V, P2, sa2, cap2, xs2, rfl, rfl, rfl, rfl, rfl, rfl, rfl, hmo, hmo2, hL, hI, hX, hxl⟩ := hcut
        have D := Lib.hid (And.intro hL (And.intro hI hX))
        clear hL hI hX
        have hCl : C0.length ≤ 64 := by rw [eB.out]; exact hnT
        have hIN : C0.length = IN := eB.out
        have EIN := Lib.hid hIN
        clear hIN
        go_upto_block 5 with (fail)
        go_cut [21, 26] from 222 to 231 (fun s21 s26 wx => ∃ (fd : Bool) (vv st : Int) (P : List (Nat × Pair)), s21 = .bool true ∧
          LW w wx tb rb (1 + m) lb key S2 R2 T1 T1 ⟨true, fd, vv, st⟩ P (.slice sa2 xs2.length cap2) xs2 ∧ Inv key C0 T al nv ⟨true, fd, vv, st⟩ P T1)
        case first => as_aux_lemma =>
          go_wp2_with fail
          go_loopg [21, 26] 300 (fun g s21 s26 wx => ∃ (j : Nat) (V : LookV) (P : List (Nat × Pair)), j ≤ 300 ∧ g = 300 - j ∧ s26 = .int .i64 j ∧ s21 = .bool V.over ∧ (V.over = false → P.length + j ≤ 64) ∧
            LW w wx tb rb (1 + m) lb key S2 R2 T1 T1 V P (.slice sa2 xs2.length cap2) xs2 ∧ Inv key C0 T al nv V P T1)
          case atStart => exact ⟨0, V, P2, by omega, rfl, rfl, rfl, fun q => by have := D.out.2.1.st1 q; have := D.out.2.1.st0; omega, D.out.1, D.out.2.1⟩
          case round =>
            obtain ⟨j, V4, P4, hj, rfl, rfl, rfl, hP4, hL, hI⟩ := hrel
            have D4 := Lib.hid (And.intro hP4 (And.intro hL hI))
            clear hP4
            cases ho : V4.over with
            | true =>
              have hend : ∃ (fd : Bool) (vv st : Int) (P : List (Nat × Pair)), LW w wr tb rb (1 + m) lb key S2 R2 T1 T1 ⟨true, fd, vv, st⟩ P (.slice sa2 xs2.length cap2) xs2 ∧ Inv key C0 T al nv ⟨true, fd, vv, st⟩ P T1 := by
                obtain ⟨ov, fd, vv, st⟩ := V4
                simp only at ho
                subst ho
                exact ⟨_, _, _, _, hL, hI⟩
              have HE := Lib.hid hend
              clear hL hI hend
              by_cases h3 : (j : Int) < 300
              all_goals
                go_wp2
                go_meet
                case rel =>
                  obtain ⟨fd, vv, st, P, q1, q2⟩ := HE.out
                  exact ⟨fd, vv, st, P, by first | rfl | rw [ho], q1, q2⟩
            | false =>
              obtain ⟨o9, hL9, hP9⟩ := hL.look
              have hst := step_c hL9 ho hI.st0 (by have := hI.st1 ho; omega) hP9
              have hj64 : P4.length + j ≤ 64 := D4.out.1 ho
              have h3 : (j : Int) < 300 := by omega
              clear hL9 hP9 hL hI
              go_wp2_with (
                go_at_call 18
                refine hst.mono ?_
                rintro e w4 ⟨rfl, o', q1, q2, q3⟩
                have N2 := Lib.hid (D4.out.2.1.step q1 q2 q3 (stepL_mem key V4 P4))
                clear hst q1 q2 q3)
              have I9 := D4.out.2.2.step ho (fun x hx hk => by rw [HA.out]; exact hC0.out x hx hk)
              go_roundg (300 - (j + 1))
              case measure => omega
              case rel => exact ⟨j + 1, _, _, by omega, rfl, rfl, rfl, stepL_less hj64, N2.out, I9⟩
        case rest => as_aux_lemma =>
          obtain ⟨fd, vv, st, P3, rfl, hL, hI⟩ := hcut
          have hst2 := hI.st2
          have hst0 := hI.st0
          have hend := hI.fin (xs := xs2) (fun v q => D.out.2.2 v (by rw [← HA.out]; exact q))
          obtain ⟨o5, hLk, _⟩ := hL.look
          have L5 := Lib.hid (And.intro hL hI)
          clear hL hI
          have hfd := found_c hLk
          clear hLk
          simp only at hst2 hst0 hfd
          have hst : st ≤ mo := by have := EIN.out; omega
          have hst' : ¬ mo < st := by omega
          rw [HA.out] at hend
          rcases hend with ⟨rfl, rfl, v0, rfl, rfl, hx0⟩ | ⟨rfl, rfl, rfl⟩
          · have hxl0 : 0 < xs2.length := by
              rcases xs2 with _ | ⟨y, r⟩
              · simp at hx0
              · simp
            obtain ⟨g, rfl, _, _, _⟩ := rows_some L5.out.1.row hxl0
            have HX := Lib.hid hx0
            clear hx0
            have hvv : (vv != vv) = false := by simp
            have hve : (vv == vv) = true := by simp
            cases al
            all_goals
              go_wp2_with (first
                | (go_at_call 19
                   refine hfd.mono ?_
                   rintro e w7 ⟨rfl, q7, hw7⟩
                   have L7 := Lib.hid (show LW w w7 tb rb (1 + m) lb key S2 R2 T1 T1 _ P3 _ xs2 from by rw [hw7]; exact L5.out.1.drewN q7)
                   obtain ⟨o7, hLk7, _⟩ := L7.out.look
                   have hsc := steps_c hLk7
                   have hov := step_over hLk7 rfl
                   clear hfd hw7 hLk7)
                | (go_at_call 20
                   refine hsc.mono ?_
                   rintro e w8 ⟨rfl, hw8⟩
                   obtain rfl : w7 = w8 := hw8.symm
                   clear hsc))
              have hc0 : w7.cell? ⟨g, 0, none⟩ = some (.int .i64 vv) := (rows_cell L7.out.row (by rw [List.getElem?_map, HX.out]; rfl)).1
              have hxl0' : (0 : Int) < (xs2.length : Int) := by omega
              go_loopg [29] 1 (fun g s29 wr => s29 = .int .i64 0 ∧ wr = w7)
              case atStart => exact ⟨rfl, rfl⟩
              case round =>
                obtain ⟨rfl, rfl⟩ := hrel
                go_wp2_with (first
                | (go_at_call 18
                   refine hov.mono ?_
                   rintro e w9 ⟨rfl, rfl⟩
                   clear hov)
                | (go_at_call 21
                   refine (known_c _).mono ?_
                   rintro e w9 ⟨rfl, hk9⟩))
                go_ret
                exact ⟨rfl, (L7.out.keep.trans hk9 (fun _ q => q.elim)).below (Nat.le_refl _) (fun _ q => q.elim)⟩
          · cases nv
            all_goals
              go_wp2_with (first
                | (go_at_call 19
                   refine hfd.mono ?_
                   rintro e w7 ⟨rfl, q7, hw7⟩
                   have L7 := Lib.hid (show LW w w7 tb rb (1 + m) lb key S2 R2 T1 T1 _ P3 _ xs2 from by rw [hw7]; exact L5.out.1.drewN q7)
                   obtain ⟨o7, hLk7, _⟩ := L7.out.look
                   have hsc := steps_c hLk7
                   have hov := step_over hLk7 rfl
                   clear hfd hw7 hLk7)
                | (go_at_call 20
                   refine hsc.mono ?_
                   rintro e w8 ⟨rfl, hw8⟩
                   obtain rfl : w7 = w8 := hw8.symm
                   clear hsc)
                | (go_at_call 18
                   refine hov.mono ?_
                   rintro e w9 ⟨rfl, rfl⟩
                   clear hov)
                | (go_at_call 21
                   refine (known_c _).mono ?_
                   rintro e w9 ⟨rfl, hk9⟩))
              go_ret
              exact ⟨rfl, (L7.out.keep.trans hk9 (fun _ q => q.elim)).below (Nat.le_refl _) (fun _ q => q.elim)⟩

theorem looks_row (n : Int) (a1 : Option Addr) (l1 c1 : Nat) (key : ByteArray) (a3 : Option Addr) (l3 c3 : Nat) (w : World) (_ : (Lit.int .i64 n).wf = true) (h1 : StructsIs [.int .i64, .str, .int .i64] w a1 l1 c1) (hs : key.size ≤ 9223372036854775807) (h3 : StructsIs [.int .i64, .str, .int .i64] w a3 l3 c3) :
    Calls Try.prog 3 #[.int .i64 n, .slice a1 l1 c1, .string key, .slice a3 l3 c3] w fun r w' => r = .returned (.bool true) ∧ Below w.heap.size w w' := looks_walk n a1 l1 c1 key a3 l3 c3 w hs h1 h3

end Go.Proofs.Ytkdpkmlmkholmaa
