/-
  The items of bytes, handed on one by one: the iterator's contract.
-/
import Derived.Test.YtmokbgihpfnmbaaItems1
namespace Go.Proofs.Ytmokbgihpfnmbaa
open Go Go.RowKit Go.Shelf
set_option linter.unusedSectionVars false
set_option linter.unusedSimpArgs false
set_option linter.unusedVariables false
attribute [local go_sem] Oper.semAt_some

/-- What holds of items that were handed on. -/
def GoodI (bx B : Nat) (xs : List ItemD) (W : World) : Prop := ∀ x ∈ xs, (∃ a cap, x.2 = .slice a x.1.call.data.length cap) ∧ BSl W x.2 x.1.call.data ∧ Clear x.2 (Rowb bx W) ∧ ∀ b, x.2.ownBlock = some b → B ≤ b

theorem GoodI.kr {bx B : Nat} {xs : List ItemD} {W U : World} (h : GoodI bx B xs W) (k : Kr bx W U) : GoodI bx B xs U := fun x hx =>
  let ⟨h1, h2, h3, h4⟩ := h x hx
  ⟨h1, (h2.kr k h3).1, (h2.kr k h3).2, h4⟩

/-- The bytes that are read, apart from the row that is laid; an empty slice lies anywhere. -/
def SrcW (bx : Nat) (W : World) (v : Value) (b : Bs) : Prop := (BSl W v b ∧ Clear v (Rowb bx W)) ∨ (b = [] ∧ ∃ ad cap, v = .slice (some ad) 0 cap ∧ cap ≤ maxLen)

theorem SrcW.kr {bx : Nat} {W U : World} {v : Value} {b : Bs} (h : SrcW bx W v b) (k : Kr bx W U) : SrcW bx U v b :=
  h.imp (fun h => h.1.kr k h.2) id

theorem SrcW.val {bx : Nat} {W : World} {v : Value} {b : Bs} (h : SrcW bx W v b) : ∃ a cap, v = .slice a b.length cap ∧ b.length ≤ cap ∧ cap ≤ maxLen := by
  rcases h with h | ⟨rfl, ad, cap, rfl, hc⟩
  · exact h.1.val
  · exact ⟨_, _, rfl, Nat.zero_le _, hc⟩

theorem SrcW.full {bx : Nat} {W : World} {v : Value} {b : Bs} (h : SrcW bx W v b) (h0 : 0 < b.length) : BSl W v b := by
  rcases h with h | ⟨rfl, _⟩
  · exact h.1
  · simp at h0

/-- The iterator on its way: where it stands (p), what it has handed on. -/
structure ItW (w0 W : World) (bx bb : Nat) (v : Value) (b : Bs) (p : Nat) (pre : List ItemD) : Prop where
  le : p ≤ b.length
  all : allI b = pre.map Prod.fst ++ allI (b.drop p)
  low : ∀ x, Rowb bx W x → x < W.heap.size
  hbx : bx < w0.heap.size
  hsz : w0.heap.size ≤ W.heap.size
  box : W.heap[bb]? = some (.cells #[v] 22 (0, 0))
  nbb : ¬ Rowb bx W bb
  src : SrcW bx W v b
  good : GoodI bx w0.heap.size pre W

theorem ItW.kr {w0 W U : World} {bx bb : Nat} {v : Value} {b : Bs} {p : Nat} {pre : List ItemD} (h : ItW w0 W bx bb v b p pre) (k : Kr bx W U) : ItW w0 U bx bb v b p pre :=
  ⟨h.le, h.all, k.low h.low, h.hbx, Nat.le_trans h.hsz k.size, k.same _ _ h.box rfl h.nbb, fun q => by
    rcases k.rows _ q with q | q
    · exact h.nbb q
    · have := lt_of_blk h.box; omega, h.src.kr k, h.good.kr k⟩

theorem ItW.aside {w0 W U : World} {bx bb : Nat} {v : Value} {b : Bs} {p : Nat} {pre : List ItemD} (h : ItW w0 W bx bb v b p pre) (k : Keep W U (fun _ => False)) : ItW w0 U bx bb v b p pre :=
  h.kr (Kr.of k (by have := h.hbx; have := h.hsz; omega))

/-- One item more. -/
theorem ItW.more {w0 W U : World} {bx bb : Nat} {v : Value} {b : Bs} {p : Nat} {pre : List ItemD} (h : ItW w0 W bx bb v b p pre) (hp : p < b.length) {i : ItemV} {n : Nat} (hi : oneI (b.drop p) = (i, n)) (k : Keep W U (fun _ => False)) {a : Option Addr} {cap : Nat}
    (hB : BSl U (.slice a i.call.data.length cap) i.call.data) (hnew : ∀ x, (Value.slice a i.call.data.length cap).ownBlock = some x → W.heap.size ≤ x) :
    (n ≠ 0 → ItW w0 U bx bb v b (p + n) (pre ++ [(i, .slice a i.call.data.length cap)])) ∧ (n = 0 → allI b = (pre ++ [(i, Value.slice a i.call.data.length cap)]).map Prod.fst) ∧ GoodI bx w0.heap.size (pre ++ [(i, .slice a i.call.data.length cap)]) U ∧ (pre ++ [(i, Value.slice a i.call.data.length cap)]).map Prod.fst <+: allI b := by
  have hU := h.aside k
  have hlen : 0 < (b.drop p).length := by rw [List.length_drop]; omega
  have hc := allI_cons hlen
  rw [hi] at hc
  simp only at hc
  have hn := oneI_le hlen
  rw [hi, List.length_drop] at hn
  simp only at hn
  have hall := h.all
  rw [hc] at hall
  have hgood : GoodI bx w0.heap.size (pre ++ [(i, .slice a i.call.data.length cap)]) U := fun x hx => by
    rcases List.mem_append.1 hx with q | q
    · exact hU.good x q
    · rw [List.mem_singleton.1 q]
      refine ⟨⟨a, cap, rfl⟩, hB, fun y hy z => ?_, fun y hy => Nat.le_trans h.hsz (hnew y hy)⟩
      have := h.low y ((Rowb.same k (by have := h.hbx; have := h.hsz; omega) y).1 z)
      have := hnew y hy
      omega
  refine ⟨fun h0 => ⟨by omega, ?_, hU.low, hU.hbx, hU.hsz, hU.box, hU.nbb, hU.src, hgood⟩, fun h0 => ?_, hgood, ?_⟩
  · rw [hall, if_neg h0, List.drop_drop, List.map_append]
    simp
  · rw [hall, if_pos h0, List.map_append]
    simp
  · rw [hall, List.map_append]
    exact ⟨if n = 0 then [] else allI ((b.drop p).drop n), by simp⟩

theorem grown_of_keep {W U : World} (k : Keep W U (fun _ => False)) : W.grownBy U none := { size := k.size, block := fun b hb _ => k.block b hb (fun q => q), os := k.os, tape := k.tape, output := k.output }

set_option maxRecDepth 100000 in
set_option maxHeartbeats 4000000 in
theorem items1_in (l bb bx : Nat) (w0 : World) (v : Value) (b : Bs) (B0 : Nat) (J Jx : List ItemD → World → Prop) (hJ : AbidesFrom B0 J)
    (hY : ∀ pre (x : ItemD) U, J pre U → (∃ a cap, x.2 = .slice a x.1.call.data.length cap) → YieldAt Fence.wide 7 Try.prog l #[itemA x.1 x.2] U fun e U' => (e = .returned (.bool true) ∧ J (pre ++ [x]) U' ∧ Kr bx U U') ∨ (e = .returned (.bool false) ∧ Jx (pre ++ [x]) U' ∧ Kr bx U U'))
    (W : World) (h : ItW w0 W bx bb v b 0 []) (h0 : J [] W) :
    CallsIn Fence.wide 8 Try.prog 34 #[.func (.yield l) #[] #[], .pointer (some ⟨bb, 0, none⟩)] W fun e U => (∃ v, e = .returned v) ∧
      ((∃ xs, (xs.map Prod.fst = allI b ∧ GoodI bx w0.heap.size xs U) ∧ J xs U) ∨ (∃ pre, (pre.map Prod.fst <+: allI b ∧ GoodI bx w0.heap.size pre U) ∧ Jx pre U)) := by
  obtain ⟨a0, cap0, rfl, hlc, hcm⟩ := h.src.val
  have HB := Lib.hid (And.intro hlc hcm)
  have H := Lib.hid h
  have H0 := Lib.hid h0
  generalize hbl : b.length = bl at *
  have HL := Lib.hid hbl
  have c0 : W.cell? ⟨bb, 0, none⟩ = some (.slice a0 bl cap0) := by rw [cell_blk H.out.box]; rfl
  clear h h0 hlc hcm hbl
  refine callsIn_of_wp Try.func34 rfl trivial ?_ rfl
  simp only [Try.ntmps34, List.size_toArray, List.length_cons, List.length_nil, Nat.reduceAdd, Nat.reduceSub, Array.replicate_succ, Array.replicate_zero, List.push_toArray, List.append_toArray, List.nil_append, List.cons_append]
  gi_wp2
  gi_loopw [3, 4, 5] (fun t _ _ wr => ∃ (p : Nat) (pre : List ItemD), t = .int .i64 p ∧ J pre wr ∧ ItW w0 wr bx bb (.slice a0 bl cap0) b p pre) (fun t _ _ _ => bl - (intOf t).toNat)
  case atStart => exact ⟨0, [], rfl, H0.out, H.out⟩
  case round =>
    obtain ⟨p, pre, rfl, hj, hW⟩ := hrel
    have c1 : wr.cell? ⟨bb, 0, none⟩ = some (.slice a0 bl cap0) := by rw [cell_blk hW.box]; rfl
    by_cases hlt : p < bl
    · have hpb : p < b.length := by rw [HL.out]; exact hlt
      have hsrc := hW.src.full (by omega)
      obtain ⟨blk, off, rfl, hbk, hf⟩ := hsrc.some (by omega)
      have hd := hsrc.tail (i := p) (by omega) (off' := off + p) (.inl rfl)
      have ht := one_c hd (by rw [List.length_drop]; omega)
      obtain ⟨i, n, hi⟩ : ∃ i n, oneI (b.drop p) = (i, n) := ⟨_, _, rfl⟩
      have hm := fun U (k : Keep wr U (fun _ => False)) (a : Option Addr) (cap : Nat) => hW.more hpb hi k (a := a) (cap := cap)
      have hnl := oneI_le (b := b.drop p) (by rw [List.length_drop]; omega)
      rw [hi, List.length_drop] at hnl
      simp only at hnl
      have hbL := HL.out
      unfold OneR at ht
      rw [hi] at ht
      simp only at ht
      have hbc := HB.out
      unfold maxLen at hbc
      have hlt' : (p : Int) < (bl : Int) := by omega
      have q1 : (p : Int) < (cap0 : Int) := by omega
      have q2 : (bl : Int) ≤ (cap0 : Int) := by omega
      have q3 : (p : Int) ≤ (bl : Int) := by omega
      have q4 : ((p : Int)).toNat = p := by omega
      have q5 : IntKind.i64.wrap ((p : Int) + (n : Int)) = (p : Int) + (n : Int) := IntWalk.i64_in _ (by omega)
      have D := Lib.hid (And.intro hj (And.intro hW (And.intro hm (And.intro hnl hpb))))
      clear hj hW hm hnl hi hd hf hbc hpb hsrc
      have hI := fun U a cap => hY pre (i, Value.slice a i.call.data.length cap) U
      obtain ⟨ik, ith, inn, ⟨op, path, tt, fd, fl, md, n2, m2, dat⟩⟩ := i
      simp only [itemA, itemC, callC] at ht hI
      gi_wp2_with (
        refine ⟨trivial, ?_⟩
        gi_at_call 35
        refine (callsIn_wide.2 ht).mono ?_
        rintro e1 U ⟨a, cap, rfl, h1, h2, h3⟩
        have M := Lib.hid (And.intro h1 (And.intro h2 h3))
        clear h1 h2 h3 ht
        have hM := D.out.2.2.1 U M.out.2.1 a cap M.out.1 M.out.2.2
        have kU := Keep.alloc U (.cells #[.int .i64 ik, .int .i64 ith, .int .i64 inn, .int .i64 op, .string path, .string tt, .int .i64 fd, .int .i64 fl, .int .i64 md, .int .i64 n2, .int .i64 m2, .slice a dat.length cap] 39) (fun _ => False)
        have hbxU : bx < U.heap.size := by have := D.out.2.1.hbx; have := D.out.2.1.hsz; have := M.out.2.1.size; omega
        have hjU := hJ _ _ _ none D.out.1 (grown_of_keep (M.out.2.1.trans kU (fun _ q => q.elim))) (fun r e => by cases e)
        obtain ⟨fn, tmps, assign, body, hy, hR⟩ := hI _ a cap hjU ⟨a, cap, rfl⟩
        have N := Lib.hid (And.intro hM (Kr.of kU hbxU))
        clear hM kU hbxU hjU hI)
      refine hR.mono ?_
      rintro e2 U2 (⟨rfl, hj2, k2⟩ | ⟨rfl, hx2, k2⟩)
      · have N2 := Lib.hid (And.intro hj2 k2)
        clear hj2 k2 hR hy
        by_cases hn0 : n = 0
        · subst hn0
          gi_wp2
          refine bodyPost_ret (results_none rfl _ _ _) rfl ?_
          exact ⟨⟨_, rfl⟩, .inl ⟨_, ⟨(N.out.1.2.1 trivial).symm, N.out.1.2.2.1.kr (N.out.2.trans N2.out.2)⟩, N2.out.1⟩⟩
        · have hn1 : ¬ (n : Int) = 0 := by omega
          have HN := Lib.hid hn0
          clear hn0
          gi_wp2
          go_roundw
          case rel => exact ⟨p + n, _, by rw [Int.natCast_add], N2.out.1, (N.out.1.1 HN.out).kr (N.out.2.trans N2.out.2)⟩
          case measure => simp [intOf]; have := HN.out; omega
      · clear hR hy
        gi_wp2
        repeat (refine ⟨fun _ h => (by cases h), ?_⟩; gi_wp2)
        refine bodyPost_ret (results_none rfl _ _ _) rfl ?_
        exact ⟨⟨_, rfl⟩, .inr ⟨_, ⟨N.out.1.2.2.2, N.out.1.2.2.1.kr (N.out.2.trans k2)⟩, hx2⟩⟩
    · have hlt' : ¬ (p : Int) < (bl : Int) := by omega
      have hpe : p = b.length := by have := hW.le; rw [HL.out] at *; omega
      have hall := hW.all
      rw [hpe, List.drop_length, allI_nil, List.append_nil] at hall
      have D := Lib.hid (And.intro hj (And.intro hW.good hall))
      clear hj hW hall hpe
      gi_wp2
      go_end0
      exact ⟨⟨_, rfl⟩, .inl ⟨_, ⟨D.out.2.2.symm, D.out.2.1⟩, D.out.1⟩⟩

theorem items_seq (bb bx : Nat) (w w0 : World) (v : Value) (b : Bs) (h : ItW w0 w bx bb v b 0 []) :
    SeqG 8 Try.prog 34 #[.pointer (some ⟨bb, 0, none⟩)] (fun x : ItemD => itemA x.1 x.2) (fun x _ => ∃ a cap, x.2 = .slice a x.1.call.data.length cap) (Kr bx) (fun xs U => xs.map Prod.fst = allI b ∧ GoodI bx w0.heap.size xs U) (fun pre U => pre.map Prod.fst <+: allI b ∧ GoodI bx w0.heap.size pre U) w := fun l J Jx W hW hJ _ hY h0 =>
  items1_in l bb bx w0 v b _ J Jx hJ hY W (h.aside ((Keep.of_below hW).mono (fun x q => q) |> fun k => ⟨k.size, fun y hy _ => k.block y hy (by omega), k.os, k.tape, k.output⟩)) h0

theorem items_c (w : World) (a : Option Addr) (n cap : Nat) :
    Calls Try.prog 22 #[.slice a n cap] w fun r w' => r = .returned (.func (.func 34) #[] #[.pointer (some ⟨w.heap.size, 0, none⟩)]) ∧ w' = w.alloc (.cells #[.slice a n cap] 22) := by
  go_enter Try.func22, Try.ntmps22
  go_wp2
  go_ret
  exact ⟨rfl, rfl⟩

end Go.Proofs.Ytmokbgihpfnmbaa
