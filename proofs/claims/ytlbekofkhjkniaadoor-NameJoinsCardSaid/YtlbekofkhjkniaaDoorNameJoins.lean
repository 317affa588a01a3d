/-
  NameJoins: the walk.
-/
import Derived.Test.YtlbekofkhjkniaaDoorNKnown
import Derived.Test.YtlbekofkhjkniaaDoorName2
import Derived.Deep.Cut
import Derived.Below
namespace Go.Proofs.YtlbekofkhjkniaaDoor
open Go Go.RowKit Go.Shelf
set_option linter.unusedSectionVars false
set_option linter.unusedSimpArgs false
set_option linter.unusedVariables false
attribute [local go_sem] Oper.semAt_some

theorem txB_bar (a b : Bl) : txB a ++ (⟨#[47]⟩ : ByteArray) ++ txB b = txB (a ++ 47 :: b) := by
  rw [txB_snoc, txB_append]
  simp

theorem rows_news {w w' : World} {e : TypeId} {a : Option Addr} {n c : Nat} {xs : List Value} (h : w.ownsRow 0 e 1 (.slice a n c) n xs) (k : Keep w w' (fun _ => False)) : n = 0 ∨ ∃ ad, a = some ad ∧ ∀ j u, xs[j]? = some u → w'.cell? (ad.add j) = some u := by
  rcases rows_val h with ⟨_, e2⟩ | ⟨g, cp, e1, _, _, _⟩
  · exact .inl e2
  · cases e1
    refine .inr ⟨_, rfl, fun j u hj => ?_⟩
    have e : ((⟨g, 0, none⟩ : Addr).add j) = ⟨g, j, none⟩ := by
      unfold Addr.add
      split
      · rename_i h; rw [h]
      · simp
    rw [e]
    exact k.cell (rows_cell h hj).1 (fun q => q)

theorem txV_one (ps : List Bl) : ∀ u ∈ ps.map txV, u.oneCell' = true := by
  intro u hu
  obtain ⟨p, -, rfl⟩ := List.mem_map.1 hu
  rfl

theorem wp_append_N {P : Program} {w : World} {o : Oper} {a : Act} {Q : Exit → Act → World → Prop} {K : Act → World → Prop} (s x : Operand) (t : TypeId) (ho : o.op = .call { callee := .builtin .append, args := #[s, x], argTypes := #[t, t] })
    {e : TypeId} {i : TypeInfo} {z : Value} {sz : Nat} (ht : P.underlying t = some (.slice e)) (hi : P.info? e = some i) (hz : i.zero = some z) (hsize : i.size = sz) (hby : i.bytes ≤ 64) (hzs : z.cells.size = sz) (hsz : 0 < sz)
    {v : Value} {n : Nat} {xs : List Value} (hs : a.eval s = v) (hown : w.ownsRow 0 e sz v n xs) {sa : Option Addr} {m c : Nat} (news : List Value) (hx : a.eval x = .slice sa m c) (hl : news.length = m * sz)
    (hnews : m = 0 ∨ ∃ ad, sa = some ad ∧ ∀ j u, news[j]? = some u → w.cell? (ad.add j) = some u) (h1 : ∀ u ∈ news, u.oneCell' = true) (h63 : n + m ≤ 1099511627776) (N : Nat) (hN : n + m = N) (ys : List Value) (hys : xs ++ news = ys)
    (hK : ∀ sa' cap' w', w'.ownsRow 0 e sz (.slice sa' N cap') N ys → Keep w w' (fun b => some b = v.ownBlock) → (∀ b, (Value.slice sa' N cap').ownBlock = some b → v.ownBlock = some b ∨ b = w.heap.size) → K (a.put o.dst (.slice sa' N cap')) w') : Oper.wp P o a w K Q := by
  subst hN hys
  exact wp_append_row s x t ho ht hi hz hsize hby hzs hsz hs hown news hx hl hnews h1 h63 hK

theorem first_app {W w : World} {o : Obj} {m c : Nat} (k : Keep (W.alloc o).drew w (fun b => some b = (Value.slice (some ⟨W.heap.size, 0, none⟩) m c).ownBlock)) : Keep W w (fun _ => False) :=
  ((Keep.alloc W o (fun _ => False)).trans (Keep.drew _ (fun _ => False)) (fun _ q => q.elim)).trans k (fun b q => .inr (by
    have q' : some b = some W.heap.size := q
    cases q'
    exact Nat.le_refl _))

theorem own_app {W : World} {o : Obj} {m c : Nat} {v : Value} (h : ∀ b, v.ownBlock = some b → (Value.slice (some ⟨W.heap.size, 0, none⟩) m c).ownBlock = some b ∨ b = (W.alloc o).drew.heap.size) : ∀ b, v.ownBlock = some b → W.heap.size ≤ b := by
  intro b q
  rcases h b q with z | z
  · have z' : some W.heap.size = some b := z
    cases z'
    exact Nat.le_refl _
  · rw [z]
    show W.heap.size ≤ (W.alloc o).heap.size
    simp

set_option maxRecDepth 100000 in
set_option maxHeartbeats 4000000 in
theorem joins_walk (x y : ByteArray) (w : World) :
    Calls Tryd.prog 4 #[.string x, .string y] w fun r w' => r = .returned (.bool true) ∧ Keep w w' (fun _ => False) := by
  obtain ⟨la, hla, lla⟩ := cutB_list 1500 x
  obtain ⟨lb, hlb, llb⟩ := cutB_list 1500 y
  have HA := Lib.hid hla
  have HB := Lib.hid hlb
  clear hla hlb
  go_enter Tryd.func4, Tryd.ntmps4
  go_upto_if 13 with (fail)
  go_cut [0] from 11 (fun s wc => s = .string (txB la) ∧ w = wc)
  case first =>
    by_cases h : 1500 < x.size
    · have g1 : (1500 : Int) < (x.size : Int) := by omega
      have g2 : (1500 : Int) ≤ (x.size : Int) := by omega
      have g3 : 1500 ≤ x.size := by omega
      go_wp2
      go_meet
      case rel => exact ⟨by rw [← HA.out, cutB, if_pos h], rfl⟩
    · have g1 : ¬ (1500 : Int) < (x.size : Int) := by omega
      go_wp2
      go_meet
      case rel => exact ⟨by rw [← HA.out, cutB, if_neg h], rfl⟩
  case rest =>
    obtain ⟨rfl, rfl⟩ := hcut
    go_upto_if 18 with (fail)
    go_cut [1] from 11 (fun s wc => s = .string (txB lb) ∧ w = wc)
    case first =>
      by_cases h : 1500 < y.size
      · have g1 : (1500 : Int) < (y.size : Int) := by omega
        have g2 : (1500 : Int) ≤ (y.size : Int) := by omega
        have g3 : 1500 ≤ y.size := by omega
        go_wp2
        go_meet
        case rel => exact ⟨by rw [← HB.out, cutB, if_pos h], rfl⟩
      · have g1 : ¬ (1500 : Int) < (y.size : Int) := by omega
        go_wp2
        go_meet
        case rel => exact ⟨by rw [← HB.out, cutB, if_neg h], rfl⟩
    case rest =>
      obtain ⟨rfl, rfl⟩ := hcut
      clear HA HB
      have hra := fun U => read_c la U
      have hrb := fun U => read_c lb U
      have hrc := fun U => read_c (la ++ 47 :: lb) U
      have hj := fun ra sa rb sb pa pb h1 h2 => readP_join (a := la) (b := lb) (ra := ra) (sa := sa) (rb := rb) (sb := sb) (pa := pa) (pb := pb) h1 h2 lla llb
      have hsa := readP_sum la (List.Sublist.refl _)
      have hsb := readP_sum lb (List.Sublist.refl _)
      have g1 : ¬ 9223372036854775807 < (txB la).size + 1 := by rw [txB_size]; omega
      have g2 : ¬ 9223372036854775807 < (txB la).size + 1 + (txB lb).size := by rw [txB_size, txB_size]; omega
      rw [← txB_bar] at hrc
      generalize readP la = RA at *
      generalize readP lb = RB at *
      generalize readP (la ++ 47 :: lb) = RC at *
      generalize txB la = x1 at *
      generalize txB lb = y1 at *
      clear lla llb la lb
      obtain ⟨⟨ra, sa, pa⟩, ea⟩ := RA
      obtain ⟨⟨rb, sb, pb⟩, eb⟩ := RB
      by_cases h1 : ea = 0
      · subst h1
        by_cases h2 : eb = 0
        · subst h2
          have hj' := hj ra sa rb sb pa pb rfl rfl
          subst hj'
          clear hj
          simp only at hra hrb hrc hsa hsb
          have HS := Lib.hid (And.intro hsa hsb)
          clear hsa hsb
          go_upto_region 10 with (first
            | (go_at_call 11
               with_reducible refine (hra _).mono ?_
               rintro e w1 ⟨v, rfl, q1, q2⟩
               obtain ⟨s1, c1, rfl, -⟩ := rows_val2 q1
               have N1 := Lib.hid (And.intro q1 q2)
               clear q1 q2 hra)
            | (go_at_call 11
               with_reducible refine (hrb _).mono ?_
               rintro e w2 ⟨v, rfl, q1, q2⟩
               obtain ⟨s2, c2, rfl, -⟩ := rows_val2 q1
               have N2 := Lib.hid (And.intro q1 q2)
               clear q1 q2 hrb)
            | (go_at_call 11
               with_reducible refine (hrc _).mono ?_
               rintro e w3 ⟨v, rfl, q1, q2⟩
               rw [List.length_append] at q1
               obtain ⟨s3, c3, rfl, -⟩ := rows_val2 q1
               have N3 := Lib.hid (And.intro q1 q2)
               clear q1 q2 hrc))
          have kx2 := Keep.alloc w1 (.cells #[.bool ra, .bool sa, .slice s1 pa.length c1] 28) (fun _ => False)
          have kx3 := Keep.alloc w2 (.cells #[.bool rb, .bool sb, .slice s2 pb.length c2] 28) (fun _ => False)
          have kx4 := Keep.alloc w3 (.cells #[.bool ra, .bool sb, .slice s3 (pa.length + pb.length) c3] 28) (fun _ => False)
          have bx2 := heap_alloc_eq w1 (.cells #[.bool ra, .bool sa, .slice s1 pa.length c1] 28)
          have bx3 := heap_alloc_eq w2 (.cells #[.bool rb, .bool sb, .slice s2 pb.length c2] 28)
          have bx4 := heap_alloc_eq w3 (.cells #[.bool ra, .bool sb, .slice s3 (pa.length + pb.length) c3] 28)
          obtain ⟨W, hW⟩ : ∃ W, W = w3.alloc (.cells #[.bool ra, .bool sb, .slice s3 (pa.length + pb.length) c3] 28) := ⟨_, rfl⟩
          rw [← hW] at kx4 bx4 ⊢
          have kb := N3.out.2.trans kx4 (fun _ q => q.elim)
          have ka := (N2.out.2.trans kx3 (fun _ q => q.elim)).trans kb (fun _ q => q.elim)
          have b2 := ka.get bx2 (fun q => q)
          have b3 := kb.get bx3 (fun q => q)
          have r1 := rows_keep (rows_keep N1.out.1 kx2 (fun _ _ q => q)) ka (fun _ _ q => q)
          have r2 := rows_keep (rows_keep N2.out.1 kx3 (fun _ _ q => q)) kb (fun _ _ q => q)
          have r3 := rows_keep N3.out.1 kx4 (fun _ _ q => q)
          have kw := (N1.out.2.trans kx2 (fun _ q => q.elim)).trans ka (fun _ q => q.elim)
          generalize hna : pa.length = na at *
          generalize hnb : pb.length = nb at *
          have p1 := cell_blk b2 0
          have p2 := cell_blk b2 1
          have p3 := cell_blk b2 2
          have q1 := cell_blk b3 0
          have q2 := cell_blk b3 1
          have q3 := cell_blk b3 2
          have t1 := cell_blk bx4 0
          have t2 := cell_blk bx4 1
          have t3 := cell_blk bx4 2
          simp only [List.getElem?_toArray, List.getElem?_cons_zero, List.getElem?_cons_succ] at p1 p2 p3 q1 q2 q3 t1 t2 t3
          have D := Lib.hid (And.intro r1 (And.intro r2 (And.intro r3 (And.intro kw (And.intro hna hnb)))))
          have HW := Lib.hid hW
          clear kx2 kx3 kx4 bx2 bx3 bx4 hW kb ka b2 b3 r1 r2 r3 kw hna hnb N1 N2 N3
          generalize w3.heap.size = n3 at *
          generalize w2.heap.size = n2 at *
          generalize w1.heap.size = n1 at *
          have KS := Lib.hid (show ∀ w' : World, Keep W w' (fun _ => False) → (w'.cell? ⟨n3, 0, none⟩ = some (.bool ra) ∧ w'.cell? ⟨n3, 1, none⟩ = some (.bool sb) ∧ w'.cell? ⟨n3, 2, none⟩ = some (.slice s3 (na + nb) c3) ∧ w'.cell? ⟨n1, 0, none⟩ = some (.bool ra) ∧ w'.cell? ⟨n1, 2, none⟩ = some (.slice s1 na c1) ∧ w'.cell? ⟨n2, 1, none⟩ = some (.bool sb) ∧ w'.cell? ⟨n2, 2, none⟩ = some (.slice s2 nb c2)) from
            fun w' k => ⟨k.cell t1 (fun q => q), k.cell t2 (fun q => q), k.cell t3 (fun q => q), k.cell p1 (fun q => q), k.cell p3 (fun q => q), k.cell q2 (fun q => q), k.cell q3 (fun q => q)⟩)
          obtain ⟨ti, ti1, ti2, ti3, ti4⟩ := str_info
          have HI := Lib.hid (And.intro ti1 (And.intro ti2 (And.intro ti3 ti4)))
          have KW := Lib.hid (Keep.refl W (fun _ => False))
          clear ti1 ti2 ti3 ti4 t1 t2 t3 p1 p2 p3 q1 q2 q3
          have hz1 : (Value.string ByteArray.empty).cells.size = 1 := rfl
          go_region_held3 (fun w' => w'.cell? ⟨n3, 0, none⟩ = some (.bool ra) ∧ w'.cell? ⟨n3, 1, none⟩ = some (.bool sb) ∧ w'.cell? ⟨n3, 2, none⟩ = some (.slice s3 (na + nb) c3) ∧ w'.cell? ⟨n1, 0, none⟩ = some (.bool ra) ∧ w'.cell? ⟨n1, 2, none⟩ = some (.slice s1 na c1) ∧ w'.cell? ⟨n2, 1, none⟩ = some (.bool sb) ∧ w'.cell? ⟨n2, 2, none⟩ = some (.slice s2 nb c2)) (first
            | exact KS.out _ KW.out
            | exact KS.out _ ((Keep.alloc _ _ _).trans (Keep.drew _ _) (fun _ q => q))
            | exact KS.out _ (Keep.alloc _ _ _)
            | exact KS.out _ (Keep.drew _ _)
            | exact KS.out _ M7.out
            | exact KS.out _ M6k.out
            | exact KS.out _ M6.out.2
            | exact KS.out _ M5.out.2.1) (first
            | (rw [if_pos (by rfl)]
               refine wp_append_N _ _ _ (by rfl) Tryd.underlying26 HI.out.1 HI.out.2.1 HI.out.2.2.1 HI.out.2.2.2 hz1 (by omega) (by rfl) (rows_keep (rows_empty (heap_alloc_eq W (.cells #[] 9))) (Keep.drew _ (fun _ => False)) (fun _ _ q => q)) (pa.map txV) (by rfl) (by rw [List.length_map, D.out.2.2.2.2.1, Nat.mul_one]) (rows_news D.out.1 ((Keep.alloc _ _ _).trans (Keep.drew _ _) (fun _ q => q))) (txV_one pa) (by have := HS.out; omega) na (by omega) (pa.map txV) (by simp) ?_
               intro a5 c5 w5 q1 q2 q3
               have M5 := Lib.hid (And.intro q1 (And.intro (first_app q2) (own_app q3)))
               clear q1 q2 q3)
            | (rw [if_pos (by rfl)]
               refine wp_append_N _ _ _ (by rfl) Tryd.underlying26 HI.out.1 HI.out.2.1 HI.out.2.2.1 HI.out.2.2.2 hz1 (by omega) (by rfl) M5.out.1 (pb.map txV) (by rfl) (by rw [List.length_map, D.out.2.2.2.2.2, Nat.mul_one]) (rows_news D.out.2.1 M5.out.2.1) (txV_one pb) (by have := HS.out; omega) (na + nb) rfl ((pa ++ pb).map txV) (by rw [List.map_append]) ?_
               intro a6 c6 w6 q1 q2 q3
               have M6 := Lib.hid (And.intro q1 (M5.out.2.1.trans q2 (fun b q => .inr (M5.out.2.2 b q.symm))))
               clear q1 q2 q3)
            | (go_at_call 12
               refine (sameP (a := pa ++ pb) (b := pa ++ pb) ((ListIn.of_own D.out.2.2.1).aside M6.out.2) (ListIn.of_own M6.out.1) (by have := HS.out; have := D.out.2.2.2.2; rw [List.length_append]; omega) (by have := HS.out; have := D.out.2.2.2.2; rw [List.length_append]; omega)).mono ?_
               rintro e w7 ⟨rfl, q, rfl⟩
               rw [show decide (pa ++ pb = pa ++ pb) = true from by simp]
               have M6k := Lib.hid (M6.out.2.trans (drewN_keep w6 (fun _ => False) q) (fun _ q => q.elim)))
            | (go_at_call 10
               refine (known_c _).mono ?_
               rintro e w8 ⟨rfl, q⟩
               have M7 := Lib.hid (M6k.out.trans q (fun _ q => q.elim))
               clear q))
          go_wp2
          go_ret
          exact ⟨rfl, D.out.2.2.2.1.trans M7.out (fun _ q => q.elim)⟩
        · clear hj hsa hsb
          have h2b : (eb != 0) = true := by simp [h2]
          obtain ⟨⟨rc, sc, pc⟩, ec⟩ := RC
          simp only at hra hrb hrc
          go_wp2_with (first
            | (go_at_call 11
               first | with_reducible refine (hra _).mono ?_ | with_reducible refine (hrb _).mono ?_ | with_reducible refine (hrc _).mono ?_
               rintro e wx ⟨v, rfl, q1, q2⟩
               obtain ⟨sl, cl, rfl, -⟩ := rows_val2 q1
               have KX := Lib.hid q2
               clear q1 q2)
            | (go_at_call 10
               refine (known_c _).mono ?_
               rintro e wx ⟨rfl, q⟩
               have KX := Lib.hid q
               clear q))
          go_ret
          refine ⟨rfl, ?_⟩
          repeat (first | exact Keep.refl _ _ | (refine Keep.trans ?_ (Keep.alloc _ _ (fun _ => False)) (fun _ q => q.elim)) | (apply Keep.add; assumption))
      · clear hj hsa hsb
        have h1b : (ea != 0) = true := by simp [h1]
        obtain ⟨⟨rc, sc, pc⟩, ec⟩ := RC
        simp only at hra hrb hrc
        go_wp2_with (first
          | (go_at_call 11
             first | with_reducible refine (hra _).mono ?_ | with_reducible refine (hrb _).mono ?_ | with_reducible refine (hrc _).mono ?_
             rintro e wx ⟨v, rfl, q1, q2⟩
             obtain ⟨sl, cl, rfl, -⟩ := rows_val2 q1
             have KX := Lib.hid q2
             clear q1 q2)
          | (go_at_call 10
             refine (known_c _).mono ?_
             rintro e wx ⟨rfl, q⟩
             have KX := Lib.hid q
             clear q))
        go_ret
        refine ⟨rfl, ?_⟩
        repeat (first | exact Keep.refl _ _ | (refine Keep.trans ?_ (Keep.alloc _ _ (fun _ => False)) (fun _ q => q.elim)) | (apply Keep.add; assumption))

theorem joins_below {p q : Prop} (x y : ByteArray) (w : World) (_ : p) (_ : q) : Calls Tryd.prog 4 #[.string x, .string y] w fun r w' => r = .returned (.bool true) ∧ Below w.heap.size w w' :=
  (joins_walk x y w).mono fun _ _ h => ⟨h.1, h.2.below (Nat.le_refl _) (fun _ q => q.elim)⟩

end Go.Proofs.YtlbekofkhjkniaaDoor
