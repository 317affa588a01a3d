/-
  Scripts are read as the document says (Decode).
-/
import Derived.Test.YtmokbgihpfnmbaaRDec
import Derived.Test.YtmokbgihpfnmbaaOne
import Derived.Test.YtmokbgihpfnmbaaItemsCat
import Derived.Deep.RegionHeld3
namespace Go.Proofs.Ytmokbgihpfnmbaa
open Go Go.RowKit
set_option linter.unusedSectionVars false
set_option linter.unusedSimpArgs false
set_option linter.unusedVariables false

/-- An operation of a region that draws, whose guard holds. -/
theorem step_wanted {o : Oper} {ops : Array Oper} {a : Act} {X E : Prop} (hw : Region.wanted o (yielded ops a.tmps) = true) (h : X) : if Region.wanted o (yielded ops a.tmps) = true then X else E := by rw [if_pos hw]; exact h

theorem zero_one : ∀ u ∈ ([.int .i64 0, .int .i64 0, .int .i64 0, .int .i64 0, .string { data := #[] }, .string { data := #[] }, .int .i64 0, .int .i64 0, .int .i64 0, .int .i64 0, .int .i64 0, .slice none 0 0] : List Value), u.oneCell' = true := by
  intro u hu; simp at hu; rcases hu with rfl | rfl | rfl | rfl <;> rfl

/-- What has been gathered of bytes. -/
structure SGX (w wr : World) (v : Value) (xs : List ItemD) : Prop where
  keep : Keep w wr (fun _ => False)
  own : wr.ownsRow 0 39 12 v xs.length (flat pairC xs)
  new : ∀ b, v.ownBlock = some b → w.heap.size ≤ b
  good : ∀ x ∈ xs, (∃ a cap, x.2 = .slice a x.1.call.data.length cap) ∧ BSl wr x.2 x.1.call.data ∧ ∀ b, x.2.ownBlock = some b → v.ownBlock ≠ some b

theorem SGX.push {w wr U0 U : World} {v v' : Value} {xs : List ItemD} {x : ItemD} {n : Nat} (h : SGX w wr v xs) (hn : n = xs.length) (k0 : Keep wr U0 (fun _ => False))
    (hx : (∃ a cap, x.2 = .slice a x.1.call.data.length cap) ∧ BSl U0 x.2 x.1.call.data ∧ ∀ b, x.2.ownBlock = some b → v.ownBlock ≠ some b)
    (r1 : U.ownsRow 0 39 12 v' (n + 1) (flat pairC xs ++ pairC x)) (r2 : Keep U0 U (fun b => some b = v.ownBlock)) (r3 : ∀ b, v'.ownBlock = some b → v.ownBlock = some b ∨ b = U0.heap.size) : SGX w U v' (xs ++ [x]) := by
  subst hn
  have hz := k0.size
  have hzw := h.keep.size
  have hcl : ∀ y : ItemD, BSl U0 y.2 y.1.call.data → (∀ b, y.2.ownBlock = some b → v.ownBlock ≠ some b) → BSl U y.2 y.1.call.data ∧ ∀ b, y.2.ownBlock = some b → v'.ownBlock ≠ some b := fun y hb hc => by
    refine ⟨hb.keep r2 (fun b q z => hc b q z.symm), fun b q z => ?_⟩
    rcases r3 b z with e | e
    · exact hc b q e
    · have := hb.lt b q; omega
  refine ⟨(h.keep.trans k0 (fun _ q => q.elim)).trans r2 (fun b q => .inr (h.new b q.symm)), ?_, fun b q => ?_, fun y hy => ?_⟩
  · rw [List.length_append, flat_append]
    simpa [flat] using r1
  · rcases r3 b q with e | e
    · exact h.new b e
    · omega
  · rcases List.mem_append.1 hy with q | q
    · obtain ⟨h1, h2, h3⟩ := h.good y q
      exact ⟨h1, hcl y (h2.aside k0) h3⟩
    · rw [List.mem_singleton.1 q]
      exact ⟨hx.1, hcl x hx.2.1 hx.2.2⟩

theorem SGX.items {w wr : World} {a : Option Addr} {n cap : Nat} {xs : List ItemD} (h : SGX w wr (.slice a n cap) xs) (hn : n = xs.length) : ItemsIn wr (.slice a n cap) (xs.map Prod.fst) :=
  items_of_row (by have := h.own; rw [← hn] at this; exact this) hn (fun x hx => ⟨(h.good x hx).1, .inl (h.good x hx).2.1⟩)

theorem SGX.nothing {wr : World} {v : Value} : (∃ a cap, ((ItemV.none, Value.slice none 0 0) : ItemD).2 = .slice a ((ItemV.none, Value.slice none 0 0) : ItemD).1.call.data.length cap) ∧ BSl wr ((ItemV.none, Value.slice none 0 0) : ItemD).2 ((ItemV.none, Value.slice none 0 0) : ItemD).1.call.data ∧ ∀ b, ((ItemV.none, Value.slice none 0 0) : ItemD).2.ownBlock = some b → v.ownBlock ≠ some b :=
  ⟨⟨none, 0, rfl⟩, BSl.nil _, fun b q => by simp [Value.ownBlock] at q⟩

theorem decS_step {m : Nat} {b : Bs} (h : 0 < b.length) {i : ItemV} {n : Nat} (hi : oneI b = (i, n)) : decS (m + 1) b = i :: (if n = 0 then [] else decS m (b.drop n)) := by
  rw [decS, if_neg (by omega), hi]

theorem dec_next {D : List ItemV} {xs : List ItemD} {xl n : Nat} {i : ItemV} {dv : Value} {l : Bs} (h : D = xs.map Prod.fst ++ (i :: if n = 0 then [] else decS (1023 - xl) (l.drop n))) (hn : n ≠ 0) (hx : xs.length = xl) :
    D = (xs ++ [(i, dv)]).map Prod.fst ++ decS (1024 - (xs ++ [(i, dv)]).length) (l.drop n) := by
  rw [h, if_neg hn, List.map_append, List.length_append, hx, List.length_singleton, show 1024 - (xl + 1) = 1023 - xl by omega]
  simp

theorem dec_last {D : List ItemV} {xs : List ItemD} {xl n : Nat} {i : ItemV} {dv : Value} {l : Bs} (h : D = xs.map Prod.fst ++ (i :: if n = 0 then [] else decS (1023 - xl) (l.drop n))) (hn : n = 0) : (xs ++ [(i, dv)]).map Prod.fst = D := by
  rw [h, if_pos hn, List.map_append]
  rfl

theorem tail_in {w : World} {blk off bl rc : Nat} {l : Bs} (h : BSl w (.slice (some ⟨blk, off, none⟩) bl rc) l) (hl : l.length = bl) {i : Nat} (hi : i ≤ bl) : BSr w (.slice (some ⟨blk, off + i, none⟩) (bl - i) (rc - i)) (l.drop i) := by
  subst hl
  exact .inl (h.tail (i := i) hi (off' := off + i) (.inl rfl))

theorem tail_end {w : World} {ad : Addr} {rc m : Nat} {l : Bs} {i : Nat} (hl : l.length ≤ i) (hc : rc ≤ maxLen) (hm : m = 0) : BSr w (.slice (some ad) m rc) (l.drop i) := by
  subst hm
  exact .inr ⟨List.drop_eq_nil_of_le hl, ad, rc, rfl, hc⟩

set_option maxRecDepth 100000 in
set_option maxHeartbeats 8000000 in
theorem rsdec_r {w : World} {v : Value} {b : Bs} (hb : BSr w v b) :
    Calls Try.prog 14 #[v] w fun r w' => ∃ u, r = .returned u ∧ ItemsIn w' u (decS 1024 b) ∧ Keep w w' (fun _ => False) := by
  obtain ⟨a0, cap0, rfl, hlc, hcm⟩ := hb.val
  have HB := Lib.hid hb
  clear hb
  generalize hbl : b.length = bl0 at *
  have HBL := Lib.hid hbl
  clear hbl
  go_enter Try.func14, Try.ntmps14
  go_wp2
  go_loopg [0, 3, 4, 5, 6, 7] bl0 (fun g s0 s3 _ _ _ _ wr => ∃ (rest : Bs) (xs : List ItemD), rest.length = g ∧ BSr w s0 rest ∧ SGX w wr s3 xs ∧ decS 1024 b = xs.map Prod.fst ++ decS (1024 - xs.length) rest ∧ xs.length ≤ 1024)
  case atStart => exact ⟨b, [], HBL.out, HB.out, ⟨Keep.refl _ _, rows_nil _ _ _, fun b q => by simp [Value.ownBlock] at q, fun x hx => by simp at hx⟩, by simp, by simp⟩
  case round =>
    obtain ⟨rest, xs, rfl, hbr, hX, hD, hx24⟩ := hrel
    obtain ⟨ra, rc, rfl, hrc, hrm⟩ := hbr.val
    obtain ⟨sa, cp, rfl, hcp⟩ := rows_val2 hX.own
    unfold maxLen at hrm
    generalize hrl' : rest.length = bl at *
    generalize hxl : xs.length = xl at *
    have HRL := Lib.hid hrl'
    have HXL := Lib.hid hxl
    have HX := Lib.hid hX
    have HD := Lib.hid hD
    have HBR := Lib.hid hbr
    clear hrl' hxl hX hD hbr
    by_cases h0 : bl = 0
    · have g0 : ¬ (0 : Int) < (bl : Int) := by omega
      have hn : rest = [] := List.length_eq_zero_iff.1 (by rw [HRL.out]; exact h0)
      go_wp2
      go_ret
      refine ⟨_, rfl, ?_, HX.out.keep⟩
      have h := HX.out.items HXL.out.symm
      rw [HD.out, hn, decS_nil, List.append_nil]
      exact h
    by_cases h24 : xl = 1024
    · have g0 : (0 : Int) < (bl : Int) := by omega
      have g1 : ¬ (xl : Int) < 1024 := by omega
      go_wp2
      go_ret
      refine ⟨_, rfl, ?_, HX.out.keep⟩
      have h := HX.out.items HXL.out.symm
      rw [HD.out, h24]
      rw [h24] at h
      simpa [decS] using h
    have g0 : (0 : Int) < (bl : Int) := by omega
    have g1 : (xl : Int) < 1024 := by omega
    obtain ⟨x, r, hr⟩ : ∃ x r, rest = x :: r := by
      cases rest with
      | nil => exact absurd HRL.out.symm (by simpa using h0)
      | cons x r => exact ⟨x, r, rfl⟩
    subst hr
    have hbs : BSl w (.slice ra bl rc) (x :: r) := by
      rcases HBR.out with h | ⟨e, _⟩
      · exact h
      · cases e
    obtain ⟨blk, off, rfl, hbk, hf⟩ := hbs.some (by simp)
    have c0 := HX.out.keep.cell (hf 0 x rfl) (fun q => q)
    rw [Nat.add_zero] at c0
    unfold u8V at c0
    have hx := byte_lt x
    have hrl1 : r.length + 1 = bl := by rw [← HRL.out]; rfl
    have hxw : IntKind.i64.wrap (x.toNat : Int) = (x.toNat : Int) := IntWalk.i64_in _ (by omega)
    have hst := fun i n (h : oneI (x :: r) = (i, n)) => (HD.out.trans (by rw [show 1024 - xl = (1023 - xl) + 1 by omega, decS_step (by simp) h] : xs.map Prod.fst ++ decS (1024 - xl) (x :: r) = xs.map Prod.fst ++ (i :: if n = 0 then [] else decS (1023 - xl) ((x :: r).drop n))))
    obtain ⟨tj, tj1, tj2, tj3, tj4⟩ := item_info
    have HJ := Lib.hid (And.intro tj1 (And.intro tj2 (And.intro tj3 tj4)))
    have HJ1 := Lib.hid (show (xl + 1) * tj.bytes ≤ 1099511627776 * 64 by
      have : (xl + 1) * tj.bytes ≤ 1025 * 128 := Nat.mul_le_mul (by omega) tj4
      omega)
    have HO := Lib.hid (show wr.ownsRow 0 39 12 (.slice sa xl cp) xl (flat pairC xs) by have h := HX.out.own; rw [HXL.out] at h; exact h)
    have HS := Lib.hid (And.intro hst (And.intro hbs hf))
    clear tj1 tj2 tj3 tj4 hst hbs hf
    by_cases g2 : x.toNat < 1 ∨ 3 < x.toNat
    · have hone := HS.out.1 _ _ (one_out (r := r) g2)
      have HN := Lib.hid hone
      clear hone
      rcases g2 with g2 | g2
      · have g3 : (x.toNat : Int) < 1 := by omega
        clear g2
        by_cases hcap : rc = 1
        · have k1 : ¬ (1 : Int) < (rc : Int) := by omega
          have k2 : bl = 1 := by omega
          go_wp2_with (first
            | (at_builtin
               refine wpList_plain rfl (fun K hK => wp_append_rowB (v := .slice sa xl cp) _ _ _ rfl Try.underlying23 HJ.out.1 HJ.out.2.1 HJ.out.2.2.1 rfl (by decide) rfl (rows_keep HO.out ((Keep.refl wr (fun _ => False)).trans (Keep.alloc wr _ (fun _ => False)) (fun _ q => q.elim)) (fun _ _ z => z)) [.int .i64 0, .int .i64 0, .int .i64 0, .int .i64 0, .string { data := #[] }, .string { data := #[] }, .int .i64 0, .int .i64 0, .int .i64 0, .int .i64 0, .int .i64 0, .slice none 0 0] rfl rfl (.inr ⟨_, rfl, cells_new wr _ _⟩) zero_one (by omega) HJ1.out (fun sa6 cap6 w6 r1 r2 r3 => hK _ _ ?_))
               have r4 := HX.out.push (x := (ItemV.none, Value.slice none 0 0)) HXL.out.symm ((Keep.refl wr (fun _ => False)).trans (Keep.alloc wr _ (fun _ => False)) (fun _ q => q.elim)) SGX.nothing r1 r2 r3
               have N6 := Lib.hid r4
               clear r1 r2 r3 r4))
          go_roundg 0
          case measure => omega
          case rel => exact ⟨(x :: r).drop 1, xs ++ [(ItemV.none, .slice none 0 0)], by rw [List.length_drop, HRL.out] <;> omega, tail_end (by rw [HRL.out]; omega) (by unfold maxLen; omega) (by first | rfl | (have := K4.out; omega)), N6.out, dec_next HN.out (by decide) HXL.out, by rw [List.length_append, HXL.out, List.length_singleton]; omega⟩
        · have k1 : (1 : Int) < (rc : Int) := by omega
          have k2 : (1 : Int) ≤ (bl : Int) := by omega
          have k3 : (bl : Int) ≤ (rc : Int) := by omega
          go_wp2_with (first
            | (at_builtin
               refine wpList_plain rfl (fun K hK => wp_append_rowB (v := .slice sa xl cp) _ _ _ rfl Try.underlying23 HJ.out.1 HJ.out.2.1 HJ.out.2.2.1 rfl (by decide) rfl (rows_keep HO.out ((Keep.refl wr (fun _ => False)).trans (Keep.alloc wr _ (fun _ => False)) (fun _ q => q.elim)) (fun _ _ z => z)) [.int .i64 0, .int .i64 0, .int .i64 0, .int .i64 0, .string { data := #[] }, .string { data := #[] }, .int .i64 0, .int .i64 0, .int .i64 0, .int .i64 0, .int .i64 0, .slice none 0 0] rfl rfl (.inr ⟨_, rfl, cells_new wr _ _⟩) zero_one (by omega) HJ1.out (fun sa6 cap6 w6 r1 r2 r3 => hK _ _ ?_))
               have r4 := HX.out.push (x := (ItemV.none, Value.slice none 0 0)) HXL.out.symm ((Keep.refl wr (fun _ => False)).trans (Keep.alloc wr _ (fun _ => False)) (fun _ q => q.elim)) SGX.nothing r1 r2 r3
               have N6 := Lib.hid r4
               clear r1 r2 r3 r4))
          go_roundg (bl - 1)
          case measure => omega
          case rel => exact ⟨(x :: r).drop 1, xs ++ [(ItemV.none, .slice none 0 0)], by rw [List.length_drop, HRL.out] <;> omega, tail_in HS.out.2.1 HRL.out (by omega), N6.out, dec_next HN.out (by decide) HXL.out, by rw [List.length_append, HXL.out, List.length_singleton]; omega⟩
      · have g3 : ¬ (x.toNat : Int) < 1 := by omega
        have g4 : 3 < (x.toNat : Int) := by omega
        clear g2
        by_cases hcap : rc = 1
        · have k1 : ¬ (1 : Int) < (rc : Int) := by omega
          have k2 : bl = 1 := by omega
          go_wp2_with (first
            | (at_builtin
               refine wpList_plain rfl (fun K hK => wp_append_rowB (v := .slice sa xl cp) _ _ _ rfl Try.underlying23 HJ.out.1 HJ.out.2.1 HJ.out.2.2.1 rfl (by decide) rfl (rows_keep HO.out ((Keep.refl wr (fun _ => False)).trans (Keep.alloc wr _ (fun _ => False)) (fun _ q => q.elim)) (fun _ _ z => z)) [.int .i64 0, .int .i64 0, .int .i64 0, .int .i64 0, .string { data := #[] }, .string { data := #[] }, .int .i64 0, .int .i64 0, .int .i64 0, .int .i64 0, .int .i64 0, .slice none 0 0] rfl rfl (.inr ⟨_, rfl, cells_new wr _ _⟩) zero_one (by omega) HJ1.out (fun sa6 cap6 w6 r1 r2 r3 => hK _ _ ?_))
               have r4 := HX.out.push (x := (ItemV.none, Value.slice none 0 0)) HXL.out.symm ((Keep.refl wr (fun _ => False)).trans (Keep.alloc wr _ (fun _ => False)) (fun _ q => q.elim)) SGX.nothing r1 r2 r3
               have N6 := Lib.hid r4
               clear r1 r2 r3 r4))
          go_roundg 0
          case measure => omega
          case rel => exact ⟨(x :: r).drop 1, xs ++ [(ItemV.none, .slice none 0 0)], by rw [List.length_drop, HRL.out] <;> omega, tail_end (by rw [HRL.out]; omega) (by unfold maxLen; omega) (by first | rfl | (have := K4.out; omega)), N6.out, dec_next HN.out (by decide) HXL.out, by rw [List.length_append, HXL.out, List.length_singleton]; omega⟩
        · have k1 : (1 : Int) < (rc : Int) := by omega
          have k2 : (1 : Int) ≤ (bl : Int) := by omega
          have k3 : (bl : Int) ≤ (rc : Int) := by omega
          go_wp2_with (first
            | (at_builtin
               refine wpList_plain rfl (fun K hK => wp_append_rowB (v := .slice sa xl cp) _ _ _ rfl Try.underlying23 HJ.out.1 HJ.out.2.1 HJ.out.2.2.1 rfl (by decide) rfl (rows_keep HO.out ((Keep.refl wr (fun _ => False)).trans (Keep.alloc wr _ (fun _ => False)) (fun _ q => q.elim)) (fun _ _ z => z)) [.int .i64 0, .int .i64 0, .int .i64 0, .int .i64 0, .string { data := #[] }, .string { data := #[] }, .int .i64 0, .int .i64 0, .int .i64 0, .int .i64 0, .int .i64 0, .slice none 0 0] rfl rfl (.inr ⟨_, rfl, cells_new wr _ _⟩) zero_one (by omega) HJ1.out (fun sa6 cap6 w6 r1 r2 r3 => hK _ _ ?_))
               have r4 := HX.out.push (x := (ItemV.none, Value.slice none 0 0)) HXL.out.symm ((Keep.refl wr (fun _ => False)).trans (Keep.alloc wr _ (fun _ => False)) (fun _ q => q.elim)) SGX.nothing r1 r2 r3
               have N6 := Lib.hid r4
               clear r1 r2 r3 r4))
          go_roundg (bl - 1)
          case measure => omega
          case rel => exact ⟨(x :: r).drop 1, xs ++ [(ItemV.none, .slice none 0 0)], by rw [List.length_drop, HRL.out] <;> omega, tail_in HS.out.2.1 HRL.out (by omega), N6.out, dec_next HN.out (by decide) HXL.out, by rw [List.length_append, HXL.out, List.length_singleton]; omega⟩
    have g3 : ¬ (x.toNat : Int) < 1 := by omega
    have g4 : ¬ 3 < (x.toNat : Int) := by omega
    by_cases g5 : x.toNat = 1
    · have g5' : (x.toNat : Int) = 1 := by omega
      by_cases g6 : r.length < 1
      · have g6' : (bl : Int) < 2 := by omega
        have HN := Lib.hid (HS.out.1 _ _ (one_short (by omega) (by omega) g6))
        go_wp2_with (first
            | (at_builtin
               refine wpList_plain rfl (fun K hK => wp_append_rowB (v := .slice sa xl cp) _ _ _ rfl Try.underlying23 HJ.out.1 HJ.out.2.1 HJ.out.2.2.1 rfl (by decide) rfl (rows_keep HO.out ((Keep.refl wr (fun _ => False)).trans (Keep.alloc wr _ (fun _ => False)) (fun _ q => q.elim)) (fun _ _ z => z)) [.int .i64 0, .int .i64 0, .int .i64 0, .int .i64 0, .string { data := #[] }, .string { data := #[] }, .int .i64 0, .int .i64 0, .int .i64 0, .int .i64 0, .int .i64 0, .slice none 0 0] rfl rfl (.inr ⟨_, rfl, cells_new wr _ _⟩) zero_one (by omega) HJ1.out (fun sa6 cap6 w6 r1 r2 r3 => hK _ _ ?_))
               have r4 := HX.out.push (x := (ItemV.none, Value.slice none 0 0)) HXL.out.symm ((Keep.refl wr (fun _ => False)).trans (Keep.alloc wr _ (fun _ => False)) (fun _ q => q.elim)) SGX.nothing r1 r2 r3
               have N6 := Lib.hid r4
               clear r1 r2 r3 r4))
        go_ret
        refine ⟨_, rfl, ?_, N6.out.keep⟩
        have h := N6.out.items (by rw [List.length_append, HXL.out]; rfl)
        rw [dec_last (n := 0) (l := x :: r) (xl := xl) (dv := Value.slice none 0 0) HN.out rfl] at h
        exact h
      · have g6' : ¬ (bl : Int) < 2 := by omega
        have g7 : (1 : Int) < (bl : Int) := by omega
        have g8 : (2 : Int) ≤ (bl : Int) := by omega
        have g9 : (2 : Int) ≤ (rc : Int) := by omega
        have g10 : (bl : Int) ≤ (rc : Int) := by omega
        obtain ⟨y, s, hys⟩ : ∃ y s, r = y :: s := by
          cases r with
          | nil => simp at g6
          | cons y s => exact ⟨y, s, rfl⟩
        subst hys
        obtain ⟨c, n, e, hd⟩ : ∃ c n e, decC s = (c, n, e) := ⟨_, _, _, rfl⟩
        have hO : oneI (x :: y :: s) = if e = 0 then (⟨1, (y.toNat : Int), 0, c⟩, 2 + n) else (ItemV.none, 0) := one_call (x := x) (r := y :: s) g5 g6 (c := c) (n := n) (e := e) hd
        have hnle := decC_le hd
        have hsl : s.length + 2 = bl := by rw [← HRL.out]; rfl
        have hf := HS.out.2.2
        have c1 := HX.out.keep.cell (hf 1 y rfl) (fun q => q)
        unfold u8V at c1
        have hy := byte_lt y
        have hnw2 : IntKind.i64.wrap (2 + (n : Int)) = 2 + (n : Int) := IntWalk.i64_in _ (by omega)
        have hyw : IntKind.i64.wrap (y.toNat : Int) = (y.toNat : Int) := IntWalk.i64_in _ (by omega)
        have hdec : ∀ off2, off2 = off + 2 ∨ rc = 2 → Calls Try.prog 24 #[.slice (some ⟨blk, off2, none⟩) (bl - 2) (rc - 2)] wr fun r w' => ∃ a cap, r = .returned (.tuple #[callA c (.slice a c.data.length cap), .int .i64 n, .int .i64 e]) ∧ BSl w' (.slice a c.data.length cap) c.data ∧ Keep wr w' (fun _ => False) ∧ ∀ x, (Value.slice a c.data.length cap).ownBlock = some x → wr.heap.size ≤ x := fun off2 h => by
          have hb2 := (HS.out.2.1.aside HX.out.keep).tail (i := 2) (by rw [HRL.out]; omega) (off' := off2) (h.imp id (fun q => by rw [HRL.out]; omega))
          have h3 := rdec_c (show BSl wr (.slice (some ⟨blk, off2, none⟩) (bl - 2) (rc - 2)) s from hb2)
          rw [hd] at h3
          exact h3
        obtain ⟨Y, hY⟩ : ∃ Y, Y = y.toNat := ⟨_, rfl⟩
        rw [← hY] at c1 hO hy hyw
        have hyY : u8V y = .int .u8 (Y : Int) := by rw [hY]; rfl
        obtain ⟨op, path, tt, fd, fl, md, n2, m2, dat⟩ := c
        simp only [callA] at hdec
        have g11 : 2 + (n : Int) = ((2 + n : Nat) : Int) := by omega
        have G11 := Lib.hid g11
        clear hd hY g11
        by_cases hcap : rc = 2
        · have k1 : ¬ (2 : Int) < (rc : Int) := by omega
          have k2 : bl = 2 := by omega
          have hdec2 := hdec off (.inr hcap)
          rw [hcap, k2] at hdec2
          simp only [Nat.sub_self] at hdec2
          clear hdec
          go_upto_if 73 with (
            go_at_call 24
            refine hdec2.mono ?_
            rintro e1 w2 ⟨a2, cap2, rfl, h1, h2, h3⟩)
          obtain ⟨w3, hw3⟩ : ∃ w3, w3 = w2.alloc (.cells #[.int .i64 op, .string path, .string tt, .int .i64 fd, .int .i64 fl, .int .i64 md, .int .i64 n2, .int .i64 m2, .slice a2 dat.length cap2] 37) := ⟨_, rfl⟩
          have kb : Keep w2 w3 (fun _ => False) := by rw [hw3]; exact Keep.alloc _ _ _
          have gc : w3.heap[w2.heap.size]? = some (.cells #[.int .i64 op, .string path, .string tt, .int .i64 fd, .int .i64 fl, .int .i64 md, .int .i64 n2, .int .i64 m2, .slice a2 dat.length cap2] 37 (0, 0)) := by rw [hw3]; exact heap_alloc_eq _ _
          have m1 := (h2.trans kb (fun _ q => q.elim)).cell c1 (fun q => q)
          have u0 := cell_blk gc 0
          have u1 := cell_blk gc 1
          have u2 := cell_blk gc 2
          have u3 := cell_blk gc 3
          have u4 := cell_blk gc 4
          have u5 := cell_blk gc 5
          have u6 := cell_blk gc 6
          have u7 := cell_blk gc 7
          have u8 := cell_blk gc 8
          simp only [List.getElem?_toArray, List.getElem?_cons_zero, List.getElem?_cons_succ] at u0 u1 u2 u3 u4 u5 u6 u7 u8
          rw [← hw3]
          have KC := Lib.hid (And.intro (h2.trans kb (fun _ q => q.elim)) (And.intro (h1.aside kb) h3))
          have HW2 := Lib.hid h2.size
          clear hw3 h1 h2 h3 kb hdec2 c1 c0 gc
          by_cases he : e = 0
          · subst he
            have HN := Lib.hid (HS.out.1 _ _ (hO.trans (if_pos rfl)))
            obtain rfl : n = 0 := by omega
            have K4 := Lib.hid k2
            have k3 : ¬ (2 + ((0 : Nat) : Int)) < (rc : Int) := by omega
            go_wp2
            have HA2 := Lib.hid (show Keep w3 (w3.alloc (.cells #[.int .i64 1, .int .i64 Y, .int .i64 0, .int .i64 op, .string path, .string tt, .int .i64 fd, .int .i64 fl, .int .i64 md, .int .i64 n2, .int .i64 m2, .slice a2 dat.length cap2] 39)).drew (fun _ => False) from (Keep.alloc w3 _ (fun _ => False)).trans (Keep.drew _ (fun _ => False)) (fun _ q => q.elim))
            have HA := Lib.hid (And.intro (KC.out.1.trans HA2.out (fun _ q => q.elim)) (cells_new w3 [.int .i64 1, .int .i64 Y, .int .i64 0, .int .i64 op, .string path, .string tt, .int .i64 fd, .int .i64 fl, .int .i64 md, .int .i64 n2, .int .i64 m2, .slice a2 dat.length cap2] 39))
            go_region_held3 (fun w' => w'.cell? ⟨blk, off + 1, none⟩ = some (.int .u8 Y) ∧ w'.cell? ⟨w2.heap.size, 0, none⟩ = some (.int .i64 op) ∧ w'.cell? ⟨w2.heap.size, 1, none⟩ = some (.string path) ∧ w'.cell? ⟨w2.heap.size, 2, none⟩ = some (.string tt) ∧ w'.cell? ⟨w2.heap.size, 3, none⟩ = some (.int .i64 fd) ∧ w'.cell? ⟨w2.heap.size, 4, none⟩ = some (.int .i64 fl) ∧ w'.cell? ⟨w2.heap.size, 5, none⟩ = some (.int .i64 md) ∧ w'.cell? ⟨w2.heap.size, 6, none⟩ = some (.int .i64 n2) ∧ w'.cell? ⟨w2.heap.size, 7, none⟩ = some (.int .i64 m2) ∧ w'.cell? ⟨w2.heap.size, 8, none⟩ = some (.slice a2 dat.length cap2)) (go_keep) (first
              | (refine step_wanted (by rfl) (wp_append_rowB (v := .slice sa xl cp) _ _ _ rfl Try.underlying23 HJ.out.1 HJ.out.2.1 HJ.out.2.2.1 rfl (by decide) (by rfl) (rows_keep HO.out (HA.out.1) (fun _ _ z => z)) [.int .i64 1, .int .i64 Y, .int .i64 0, .int .i64 op, .string path, .string tt, .int .i64 fd, .int .i64 fl, .int .i64 md, .int .i64 n2, .int .i64 m2, .slice a2 dat.length cap2] (by rfl) rfl (.inr ⟨_, rfl, HA.out.2⟩) (by intro u hu; simp at hu; rcases hu with rfl | rfl | rfl | rfl | rfl | rfl | rfl | rfl | rfl | rfl | rfl | rfl <;> rfl) (by omega) HJ1.out (fun sa6 cap6 w6 r1 r2 r3 => ?_))
                 have r4 := HX.out.push (x := ((⟨1, (Y : Int), 0, ⟨op, path, tt, fd, fl, md, n2, m2, dat⟩⟩ : ItemV), Value.slice a2 dat.length cap2)) HXL.out.symm HA.out.1 ⟨⟨a2, cap2, rfl⟩, KC.out.2.1.aside HA2.out, fun b q z => by have h1 := KC.out.2.2 b q; have h2 := own_lt HO.out b z; omega⟩ r1 r2 r3
                 have z1 := r4.keep.cell (hf 1 y rfl) (fun q => q)
                 rw [hyY] at z1
                 have kq := Keep.trans (HA2.out.mono (T := fun b => some b = (Value.slice sa xl cp).ownBlock) (fun _ q => q.elim)) r2 (fun b q => .inl q)
                 have y0 := kq.cell u0 (fun q => by have h2 := own_lt HO.out _ q.symm; have := HW2.out; omega)
                 have y1 := kq.cell u1 (fun q => by have h2 := own_lt HO.out _ q.symm; have := HW2.out; omega)
                 have y2 := kq.cell u2 (fun q => by have h2 := own_lt HO.out _ q.symm; have := HW2.out; omega)
                 have y3 := kq.cell u3 (fun q => by have h2 := own_lt HO.out _ q.symm; have := HW2.out; omega)
                 have y4 := kq.cell u4 (fun q => by have h2 := own_lt HO.out _ q.symm; have := HW2.out; omega)
                 have y5 := kq.cell u5 (fun q => by have h2 := own_lt HO.out _ q.symm; have := HW2.out; omega)
                 have y6 := kq.cell u6 (fun q => by have h2 := own_lt HO.out _ q.symm; have := HW2.out; omega)
                 have y7 := kq.cell u7 (fun q => by have h2 := own_lt HO.out _ q.symm; have := HW2.out; omega)
                 have y8 := kq.cell u8 (fun q => by have h2 := own_lt HO.out _ q.symm; have := HW2.out; omega)
                 have N6 := Lib.hid r4
                 clear r1 r2 r3 r4 kq))
            go_wp2
            go_roundg 0
            case measure => omega
            case rel => exact ⟨(x :: y :: s).drop (2 + 0), xs ++ [((⟨1, (Y : Int), 0, ⟨op, path, tt, fd, fl, md, n2, m2, dat⟩⟩ : ItemV), Value.slice a2 dat.length cap2)], by rw [List.length_drop, HRL.out] <;> omega, tail_end (by rw [HRL.out]; omega) (by unfold maxLen; omega) (by first | rfl | (have := K4.out; omega)), N6.out, dec_next HN.out (by omega) HXL.out, by rw [List.length_append, HXL.out, List.length_singleton]; omega⟩
          · have g0 : (e != 0) = true := by simpa using he
            have HN := Lib.hid (HS.out.1 _ _ (hO.trans (if_neg he)))
            clear he
            go_wp2_with (first
              | (at_builtin
                 refine wpList_plain rfl (fun K hK => wp_append_rowB (v := .slice sa xl cp) _ _ _ rfl Try.underlying23 HJ.out.1 HJ.out.2.1 HJ.out.2.2.1 rfl (by decide) rfl (rows_keep HO.out (KC.out.1.trans (Keep.alloc w3 _ (fun _ => False)) (fun _ q => q.elim)) (fun _ _ z => z)) [.int .i64 0, .int .i64 0, .int .i64 0, .int .i64 0, .string { data := #[] }, .string { data := #[] }, .int .i64 0, .int .i64 0, .int .i64 0, .int .i64 0, .int .i64 0, .slice none 0 0] rfl rfl (.inr ⟨_, rfl, cells_new w3 _ _⟩) zero_one (by omega) HJ1.out (fun sa6 cap6 w6 r1 r2 r3 => hK _ _ ?_))
                 have r4 := HX.out.push (x := (ItemV.none, Value.slice none 0 0)) HXL.out.symm (KC.out.1.trans (Keep.alloc w3 _ (fun _ => False)) (fun _ q => q.elim)) SGX.nothing r1 r2 r3
                 have N6 := Lib.hid r4
                 clear r1 r2 r3 r4))
            go_ret
            refine ⟨_, rfl, ?_, N6.out.keep⟩
            have h := N6.out.items (by rw [List.length_append, HXL.out]; rfl)
            rw [dec_last (n := 0) (l := x :: y :: s) (xl := xl) (dv := Value.slice none 0 0) HN.out rfl] at h
            exact h
        · have k1 : (2 : Int) < (rc : Int) := by omega
          have hdec2 := hdec (off + 2) (.inl rfl)
          clear hdec
          go_upto_if 73 with (
            go_at_call 24
            refine hdec2.mono ?_
            rintro e1 w2 ⟨a2, cap2, rfl, h1, h2, h3⟩)
          obtain ⟨w3, hw3⟩ : ∃ w3, w3 = w2.alloc (.cells #[.int .i64 op, .string path, .string tt, .int .i64 fd, .int .i64 fl, .int .i64 md, .int .i64 n2, .int .i64 m2, .slice a2 dat.length cap2] 37) := ⟨_, rfl⟩
          have kb : Keep w2 w3 (fun _ => False) := by rw [hw3]; exact Keep.alloc _ _ _
          have gc : w3.heap[w2.heap.size]? = some (.cells #[.int .i64 op, .string path, .string tt, .int .i64 fd, .int .i64 fl, .int .i64 md, .int .i64 n2, .int .i64 m2, .slice a2 dat.length cap2] 37 (0, 0)) := by rw [hw3]; exact heap_alloc_eq _ _
          have m1 := (h2.trans kb (fun _ q => q.elim)).cell c1 (fun q => q)
          have u0 := cell_blk gc 0
          have u1 := cell_blk gc 1
          have u2 := cell_blk gc 2
          have u3 := cell_blk gc 3
          have u4 := cell_blk gc 4
          have u5 := cell_blk gc 5
          have u6 := cell_blk gc 6
          have u7 := cell_blk gc 7
          have u8 := cell_blk gc 8
          simp only [List.getElem?_toArray, List.getElem?_cons_zero, List.getElem?_cons_succ] at u0 u1 u2 u3 u4 u5 u6 u7 u8
          rw [← hw3]
          have KC := Lib.hid (And.intro (h2.trans kb (fun _ q => q.elim)) (And.intro (h1.aside kb) h3))
          have HW2 := Lib.hid h2.size
          clear hw3 h1 h2 h3 kb hdec2 c1 c0 gc
          by_cases he : e = 0
          · subst he
            have HN := Lib.hid (HS.out.1 _ _ (hO.trans (if_pos rfl)))
            by_cases hcap3 : rc = 2 + n
            · have k3 : ¬ (2 + (n : Int)) < (rc : Int) := by omega
              have K4 := Lib.hid (show bl = 2 + n ∧ rc = 2 + n from ⟨by omega, hcap3⟩)
              have k4 : 2 + (n : Int) ≤ (bl : Int) := by omega
              clear hcap3
              go_wp2
              have HA2 := Lib.hid (show Keep w3 (w3.alloc (.cells #[.int .i64 1, .int .i64 Y, .int .i64 0, .int .i64 op, .string path, .string tt, .int .i64 fd, .int .i64 fl, .int .i64 md, .int .i64 n2, .int .i64 m2, .slice a2 dat.length cap2] 39)).drew (fun _ => False) from (Keep.alloc w3 _ (fun _ => False)).trans (Keep.drew _ (fun _ => False)) (fun _ q => q.elim))
              have HA := Lib.hid (And.intro (KC.out.1.trans HA2.out (fun _ q => q.elim)) (cells_new w3 [.int .i64 1, .int .i64 Y, .int .i64 0, .int .i64 op, .string path, .string tt, .int .i64 fd, .int .i64 fl, .int .i64 md, .int .i64 n2, .int .i64 m2, .slice a2 dat.length cap2] 39))
              go_region_held3 (fun w' => w'.cell? ⟨blk, off + 1, none⟩ = some (.int .u8 Y) ∧ w'.cell? ⟨w2.heap.size, 0, none⟩ = some (.int .i64 op) ∧ w'.cell? ⟨w2.heap.size, 1, none⟩ = some (.string path) ∧ w'.cell? ⟨w2.heap.size, 2, none⟩ = some (.string tt) ∧ w'.cell? ⟨w2.heap.size, 3, none⟩ = some (.int .i64 fd) ∧ w'.cell? ⟨w2.heap.size, 4, none⟩ = some (.int .i64 fl) ∧ w'.cell? ⟨w2.heap.size, 5, none⟩ = some (.int .i64 md) ∧ w'.cell? ⟨w2.heap.size, 6, none⟩ = some (.int .i64 n2) ∧ w'.cell? ⟨w2.heap.size, 7, none⟩ = some (.int .i64 m2) ∧ w'.cell? ⟨w2.heap.size, 8, none⟩ = some (.slice a2 dat.length cap2)) (go_keep) (first
                | (refine step_wanted (by rfl) (wp_append_rowB (v := .slice sa xl cp) _ _ _ rfl Try.underlying23 HJ.out.1 HJ.out.2.1 HJ.out.2.2.1 rfl (by decide) (by rfl) (rows_keep HO.out (HA.out.1) (fun _ _ z => z)) [.int .i64 1, .int .i64 Y, .int .i64 0, .int .i64 op, .string path, .string tt, .int .i64 fd, .int .i64 fl, .int .i64 md, .int .i64 n2, .int .i64 m2, .slice a2 dat.length cap2] (by rfl) rfl (.inr ⟨_, rfl, HA.out.2⟩) (by intro u hu; simp at hu; rcases hu with rfl | rfl | rfl | rfl | rfl | rfl | rfl | rfl | rfl | rfl | rfl | rfl <;> rfl) (by omega) HJ1.out (fun sa6 cap6 w6 r1 r2 r3 => ?_))
                   have r4 := HX.out.push (x := ((⟨1, (Y : Int), 0, ⟨op, path, tt, fd, fl, md, n2, m2, dat⟩⟩ : ItemV), Value.slice a2 dat.length cap2)) HXL.out.symm HA.out.1 ⟨⟨a2, cap2, rfl⟩, KC.out.2.1.aside HA2.out, fun b q z => by have h1 := KC.out.2.2 b q; have h2 := own_lt HO.out b z; omega⟩ r1 r2 r3
                   have z1 := r4.keep.cell (hf 1 y rfl) (fun q => q)
                   rw [hyY] at z1
                   have kq := Keep.trans (HA2.out.mono (T := fun b => some b = (Value.slice sa xl cp).ownBlock) (fun _ q => q.elim)) r2 (fun b q => .inl q)
                   have y0 := kq.cell u0 (fun q => by have h2 := own_lt HO.out _ q.symm; have := HW2.out; omega)
                   have y1 := kq.cell u1 (fun q => by have h2 := own_lt HO.out _ q.symm; have := HW2.out; omega)
                   have y2 := kq.cell u2 (fun q => by have h2 := own_lt HO.out _ q.symm; have := HW2.out; omega)
                   have y3 := kq.cell u3 (fun q => by have h2 := own_lt HO.out _ q.symm; have := HW2.out; omega)
                   have y4 := kq.cell u4 (fun q => by have h2 := own_lt HO.out _ q.symm; have := HW2.out; omega)
                   have y5 := kq.cell u5 (fun q => by have h2 := own_lt HO.out _ q.symm; have := HW2.out; omega)
                   have y6 := kq.cell u6 (fun q => by have h2 := own_lt HO.out _ q.symm; have := HW2.out; omega)
                   have y7 := kq.cell u7 (fun q => by have h2 := own_lt HO.out _ q.symm; have := HW2.out; omega)
                   have y8 := kq.cell u8 (fun q => by have h2 := own_lt HO.out _ q.symm; have := HW2.out; omega)
                   have N6 := Lib.hid r4
                   clear r1 r2 r3 r4 kq))
              go_wp2
              go_roundg 0
              case measure => omega
              case rel => exact ⟨(x :: y :: s).drop (2 + n), xs ++ [((⟨1, (Y : Int), 0, ⟨op, path, tt, fd, fl, md, n2, m2, dat⟩⟩ : ItemV), Value.slice a2 dat.length cap2)], by rw [List.length_drop, HRL.out] <;> omega, tail_end (by rw [HRL.out]; omega) (by unfold maxLen; omega) (by first | rfl | (have := K4.out; omega)), N6.out, dec_next HN.out (by omega) HXL.out, by rw [List.length_append, HXL.out, List.length_singleton]; omega⟩
            · have k3 : (2 + (n : Int)) < (rc : Int) := by omega
              have k4 : 2 + (n : Int) ≤ (bl : Int) := by omega
              have k5 : (bl : Int) ≤ (rc : Int) := by omega
              go_wp2
              have HA2 := Lib.hid (show Keep w3 (w3.alloc (.cells #[.int .i64 1, .int .i64 Y, .int .i64 0, .int .i64 op, .string path, .string tt, .int .i64 fd, .int .i64 fl, .int .i64 md, .int .i64 n2, .int .i64 m2, .slice a2 dat.length cap2] 39)).drew (fun _ => False) from (Keep.alloc w3 _ (fun _ => False)).trans (Keep.drew _ (fun _ => False)) (fun _ q => q.elim))
              have HA := Lib.hid (And.intro (KC.out.1.trans HA2.out (fun _ q => q.elim)) (cells_new w3 [.int .i64 1, .int .i64 Y, .int .i64 0, .int .i64 op, .string path, .string tt, .int .i64 fd, .int .i64 fl, .int .i64 md, .int .i64 n2, .int .i64 m2, .slice a2 dat.length cap2] 39))
              go_region_held3 (fun w' => w'.cell? ⟨blk, off + 1, none⟩ = some (.int .u8 Y) ∧ w'.cell? ⟨w2.heap.size, 0, none⟩ = some (.int .i64 op) ∧ w'.cell? ⟨w2.heap.size, 1, none⟩ = some (.string path) ∧ w'.cell? ⟨w2.heap.size, 2, none⟩ = some (.string tt) ∧ w'.cell? ⟨w2.heap.size, 3, none⟩ = some (.int .i64 fd) ∧ w'.cell? ⟨w2.heap.size, 4, none⟩ = some (.int .i64 fl) ∧ w'.cell? ⟨w2.heap.size, 5, none⟩ = some (.int .i64 md) ∧ w'.cell? ⟨w2.heap.size, 6, none⟩ = some (.int .i64 n2) ∧ w'.cell? ⟨w2.heap.size, 7, none⟩ = some (.int .i64 m2) ∧ w'.cell? ⟨w2.heap.size, 8, none⟩ = some (.slice a2 dat.length cap2)) (go_keep) (first
                | (refine step_wanted (by rfl) (wp_append_rowB (v := .slice sa xl cp) _ _ _ rfl Try.underlying23 HJ.out.1 HJ.out.2.1 HJ.out.2.2.1 rfl (by decide) (by rfl) (rows_keep HO.out (HA.out.1) (fun _ _ z => z)) [.int .i64 1, .int .i64 Y, .int .i64 0, .int .i64 op, .string path, .string tt, .int .i64 fd, .int .i64 fl, .int .i64 md, .int .i64 n2, .int .i64 m2, .slice a2 dat.length cap2] (by rfl) rfl (.inr ⟨_, rfl, HA.out.2⟩) (by intro u hu; simp at hu; rcases hu with rfl | rfl | rfl | rfl | rfl | rfl | rfl | rfl | rfl | rfl | rfl | rfl <;> rfl) (by omega) HJ1.out (fun sa6 cap6 w6 r1 r2 r3 => ?_))
                   have r4 := HX.out.push (x := ((⟨1, (Y : Int), 0, ⟨op, path, tt, fd, fl, md, n2, m2, dat⟩⟩ : ItemV), Value.slice a2 dat.length cap2)) HXL.out.symm HA.out.1 ⟨⟨a2, cap2, rfl⟩, KC.out.2.1.aside HA2.out, fun b q z => by have h1 := KC.out.2.2 b q; have h2 := own_lt HO.out b z; omega⟩ r1 r2 r3
                   have z1 := r4.keep.cell (hf 1 y rfl) (fun q => q)
                   rw [hyY] at z1
                   have kq := Keep.trans (HA2.out.mono (T := fun b => some b = (Value.slice sa xl cp).ownBlock) (fun _ q => q.elim)) r2 (fun b q => .inl q)
                   have y0 := kq.cell u0 (fun q => by have h2 := own_lt HO.out _ q.symm; have := HW2.out; omega)
                   have y1 := kq.cell u1 (fun q => by have h2 := own_lt HO.out _ q.symm; have := HW2.out; omega)
                   have y2 := kq.cell u2 (fun q => by have h2 := own_lt HO.out _ q.symm; have := HW2.out; omega)
                   have y3 := kq.cell u3 (fun q => by have h2 := own_lt HO.out _ q.symm; have := HW2.out; omega)
                   have y4 := kq.cell u4 (fun q => by have h2 := own_lt HO.out _ q.symm; have := HW2.out; omega)
                   have y5 := kq.cell u5 (fun q => by have h2 := own_lt HO.out _ q.symm; have := HW2.out; omega)
                   have y6 := kq.cell u6 (fun q => by have h2 := own_lt HO.out _ q.symm; have := HW2.out; omega)
                   have y7 := kq.cell u7 (fun q => by have h2 := own_lt HO.out _ q.symm; have := HW2.out; omega)
                   have y8 := kq.cell u8 (fun q => by have h2 := own_lt HO.out _ q.symm; have := HW2.out; omega)
                   have N6 := Lib.hid r4
                   clear r1 r2 r3 r4 kq))
              go_wp2
              go_roundg (bl - (2 + n))
              case measure => omega
              case rel => exact ⟨(x :: y :: s).drop (2 + n), xs ++ [((⟨1, (Y : Int), 0, ⟨op, path, tt, fd, fl, md, n2, m2, dat⟩⟩ : ItemV), Value.slice a2 dat.length cap2)], by rw [List.length_drop, HRL.out] <;> omega, tail_in HS.out.2.1 HRL.out (by omega), N6.out, dec_next HN.out (by omega) HXL.out, by rw [List.length_append, HXL.out, List.length_singleton]; omega⟩
          · have g0 : (e != 0) = true := by simpa using he
            have HN := Lib.hid (HS.out.1 _ _ (hO.trans (if_neg he)))
            clear he
            go_wp2_with (first
              | (at_builtin
                 refine wpList_plain rfl (fun K hK => wp_append_rowB (v := .slice sa xl cp) _ _ _ rfl Try.underlying23 HJ.out.1 HJ.out.2.1 HJ.out.2.2.1 rfl (by decide) rfl (rows_keep HO.out (KC.out.1.trans (Keep.alloc w3 _ (fun _ => False)) (fun _ q => q.elim)) (fun _ _ z => z)) [.int .i64 0, .int .i64 0, .int .i64 0, .int .i64 0, .string { data := #[] }, .string { data := #[] }, .int .i64 0, .int .i64 0, .int .i64 0, .int .i64 0, .int .i64 0, .slice none 0 0] rfl rfl (.inr ⟨_, rfl, cells_new w3 _ _⟩) zero_one (by omega) HJ1.out (fun sa6 cap6 w6 r1 r2 r3 => hK _ _ ?_))
                 have r4 := HX.out.push (x := (ItemV.none, Value.slice none 0 0)) HXL.out.symm (KC.out.1.trans (Keep.alloc w3 _ (fun _ => False)) (fun _ q => q.elim)) SGX.nothing r1 r2 r3
                 have N6 := Lib.hid r4
                 clear r1 r2 r3 r4))
            go_ret
            refine ⟨_, rfl, ?_, N6.out.keep⟩
            have h := N6.out.items (by rw [List.length_append, HXL.out]; rfl)
            rw [dec_last (n := 0) (l := x :: y :: s) (xl := xl) (dv := Value.slice none 0 0) HN.out rfl] at h
            exact h
    · have g5' : ¬ (x.toNat : Int) = 1 := by omega
      by_cases g6 : r.length < 2
      · have g6' : (bl : Int) < 3 := by omega
        have HN := Lib.hid (HS.out.1 _ _ (one_short3 (by omega) (by omega) g5 g6))
        go_wp2_with (first
            | (at_builtin
               refine wpList_plain rfl (fun K hK => wp_append_rowB (v := .slice sa xl cp) _ _ _ rfl Try.underlying23 HJ.out.1 HJ.out.2.1 HJ.out.2.2.1 rfl (by decide) rfl (rows_keep HO.out ((Keep.refl wr (fun _ => False)).trans (Keep.alloc wr _ (fun _ => False)) (fun _ q => q.elim)) (fun _ _ z => z)) [.int .i64 0, .int .i64 0, .int .i64 0, .int .i64 0, .string { data := #[] }, .string { data := #[] }, .int .i64 0, .int .i64 0, .int .i64 0, .int .i64 0, .int .i64 0, .slice none 0 0] rfl rfl (.inr ⟨_, rfl, cells_new wr _ _⟩) zero_one (by omega) HJ1.out (fun sa6 cap6 w6 r1 r2 r3 => hK _ _ ?_))
               have r4 := HX.out.push (x := (ItemV.none, Value.slice none 0 0)) HXL.out.symm ((Keep.refl wr (fun _ => False)).trans (Keep.alloc wr _ (fun _ => False)) (fun _ q => q.elim)) SGX.nothing r1 r2 r3
               have N6 := Lib.hid r4
               clear r1 r2 r3 r4))
        go_ret
        refine ⟨_, rfl, ?_, N6.out.keep⟩
        have h := N6.out.items (by rw [List.length_append, HXL.out]; rfl)
        rw [dec_last (n := 0) (l := x :: r) (xl := xl) (dv := Value.slice none 0 0) HN.out rfl] at h
        exact h
      · have g6' : ¬ (bl : Int) < 3 := by omega
        have g7 : (1 : Int) < (bl : Int) := by omega
        have g8 : (2 : Int) < (bl : Int) := by omega
        have hO := one_step (x := x) (r := r) (by omega) (by omega) g5 g6
        obtain ⟨y, z, s, hyz⟩ : ∃ y z s, r = y :: z :: s := by
          match r, g6 with
          | y :: z :: s, _ => exact ⟨y, z, s, rfl⟩
          | [y], h => simp at h
          | [], h => simp at h
        subst hyz
        have hv2 : val2 (y :: z :: s) = y.toNat * 256 + z.toNat := rfl
        rw [hv2] at hO
        have hf := HS.out.2.2
        have c1 := HX.out.keep.cell (hf 1 y rfl) (fun q => q)
        have c2 := HX.out.keep.cell (hf 2 z rfl) (fun q => q)
        unfold u8V at c1 c2
        have hy := byte_lt y
        have hzz := byte_lt z
        have hrd := read2 hy hzz
        have hN := HS.out.1 _ _ hO
        obtain ⟨Y, hY⟩ : ∃ Y, Y = y.toNat := ⟨_, rfl⟩
        obtain ⟨Z, hZ⟩ : ∃ Z, Z = z.toNat := ⟨_, rfl⟩
        rw [← hY] at c1 hN hrd hy
        rw [← hZ] at c2 hN hrd hzz
        rw [show ((Y * 256 + Z : Nat) : Int) = (Y : Int) * 256 + (Z : Int) by omega] at hN
        have HN := Lib.hid hN
        have hyY : u8V y = .int .u8 (Y : Int) := by rw [hY]; rfl
        have hzZ : u8V z = .int .u8 (Z : Int) := by rw [hZ]; rfl
        clear hO hN hv2 hY hZ
        by_cases hcap : rc = 3
        · have k1 : ¬ (3 : Int) < (rc : Int) := by omega
          have k2 : bl = 3 := by omega
          go_wp2
          have hkA : Keep wr (wr.alloc (.cells #[.int .i64 x.toNat, .int .i64 0, .int .i64 ((Y : Int) * 256 + (Z : Int)), .int .i64 0, .string { data := #[] }, .string { data := #[] }, .int .i64 0, .int .i64 0, .int .i64 0, .int .i64 0, .int .i64 0, .slice none 0 0] 39)).drew (fun _ => False) := ((Keep.refl wr (fun _ => False)).trans (Keep.alloc wr _ (fun _ => False)) (fun _ q => q.elim)).trans (Keep.drew _ (fun _ => False)) (fun _ q => q.elim)
          have hcn := cells_new wr [.int .i64 x.toNat, .int .i64 0, .int .i64 ((Y : Int) * 256 + (Z : Int)), .int .i64 0, .string { data := #[] }, .string { data := #[] }, .int .i64 0, .int .i64 0, .int .i64 0, .int .i64 0, .int .i64 0, .slice none 0 0] 39
          have HA := Lib.hid (And.intro hkA hcn)
          clear hkA hcn
          go_region_held3 (fun w' => w'.cell? ⟨blk, off + 1, none⟩ = some (.int .u8 Y) ∧ w'.cell? ⟨blk, off + 2, none⟩ = some (.int .u8 Z)) (go_keep) (first
            | (refine step_wanted (by rfl) (wp_append_rowB (v := .slice sa xl cp) _ _ _ rfl Try.underlying23 HJ.out.1 HJ.out.2.1 HJ.out.2.2.1 rfl (by decide) (by rfl) (rows_keep HO.out (HA.out.1) (fun _ _ z => z)) [.int .i64 x.toNat, .int .i64 0, .int .i64 ((Y : Int) * 256 + (Z : Int)), .int .i64 0, .string { data := #[] }, .string { data := #[] }, .int .i64 0, .int .i64 0, .int .i64 0, .int .i64 0, .int .i64 0, .slice none 0 0] (by rfl) rfl (.inr ⟨_, rfl, HA.out.2⟩) (by intro u hu; simp at hu; rcases hu with rfl | rfl | rfl | rfl | rfl | rfl | rfl | rfl | rfl | rfl | rfl | rfl <;> rfl) (by omega) HJ1.out (fun sa6 cap6 w6 r1 r2 r3 => ?_))
               have r4 := HX.out.push (x := ((⟨x.toNat, 0, (Y : Int) * 256 + (Z : Int), CallV.none⟩ : ItemV), Value.slice none 0 0)) HXL.out.symm HA.out.1 ⟨⟨none, 0, rfl⟩, BSl.nil _, fun b q => by simp [Value.ownBlock] at q⟩ r1 r2 r3
               have z1 := r4.keep.cell (hf 1 y rfl) (fun q => q)
               have z2 := r4.keep.cell (hf 2 z rfl) (fun q => q)
               rw [hyY] at z1
               rw [hzZ] at z2
               have N6 := Lib.hid r4
               clear r1 r2 r3 r4))
          go_wp2
          go_roundg 0
          case measure => omega
          case rel => exact ⟨(x :: y :: z :: s).drop (3), xs ++ [((⟨x.toNat, 0, (Y : Int) * 256 + (Z : Int), CallV.none⟩ : ItemV), Value.slice none 0 0)], by rw [List.length_drop, HRL.out] <;> omega, tail_end (by rw [HRL.out]; omega) (by unfold maxLen; omega) (by first | rfl | (have := K4.out; omega)), N6.out, dec_next HN.out (by omega) HXL.out, by rw [List.length_append, HXL.out, List.length_singleton]; omega⟩
        · have k1 : (3 : Int) < (rc : Int) := by omega
          have k2 : (3 : Int) ≤ (bl : Int) := by omega
          have k3 : (bl : Int) ≤ (rc : Int) := by omega
          go_wp2
          have hkA : Keep wr (wr.alloc (.cells #[.int .i64 x.toNat, .int .i64 0, .int .i64 ((Y : Int) * 256 + (Z : Int)), .int .i64 0, .string { data := #[] }, .string { data := #[] }, .int .i64 0, .int .i64 0, .int .i64 0, .int .i64 0, .int .i64 0, .slice none 0 0] 39)).drew (fun _ => False) := ((Keep.refl wr (fun _ => False)).trans (Keep.alloc wr _ (fun _ => False)) (fun _ q => q.elim)).trans (Keep.drew _ (fun _ => False)) (fun _ q => q.elim)
          have hcn := cells_new wr [.int .i64 x.toNat, .int .i64 0, .int .i64 ((Y : Int) * 256 + (Z : Int)), .int .i64 0, .string { data := #[] }, .string { data := #[] }, .int .i64 0, .int .i64 0, .int .i64 0, .int .i64 0, .int .i64 0, .slice none 0 0] 39
          have HA := Lib.hid (And.intro hkA hcn)
          clear hkA hcn
          go_region_held3 (fun w' => w'.cell? ⟨blk, off + 1, none⟩ = some (.int .u8 Y) ∧ w'.cell? ⟨blk, off + 2, none⟩ = some (.int .u8 Z)) (go_keep) (first
            | (refine step_wanted (by rfl) (wp_append_rowB (v := .slice sa xl cp) _ _ _ rfl Try.underlying23 HJ.out.1 HJ.out.2.1 HJ.out.2.2.1 rfl (by decide) (by rfl) (rows_keep HO.out (HA.out.1) (fun _ _ z => z)) [.int .i64 x.toNat, .int .i64 0, .int .i64 ((Y : Int) * 256 + (Z : Int)), .int .i64 0, .string { data := #[] }, .string { data := #[] }, .int .i64 0, .int .i64 0, .int .i64 0, .int .i64 0, .int .i64 0, .slice none 0 0] (by rfl) rfl (.inr ⟨_, rfl, HA.out.2⟩) (by intro u hu; simp at hu; rcases hu with rfl | rfl | rfl | rfl | rfl | rfl | rfl | rfl | rfl | rfl | rfl | rfl <;> rfl) (by omega) HJ1.out (fun sa6 cap6 w6 r1 r2 r3 => ?_))
               have r4 := HX.out.push (x := ((⟨x.toNat, 0, (Y : Int) * 256 + (Z : Int), CallV.none⟩ : ItemV), Value.slice none 0 0)) HXL.out.symm HA.out.1 ⟨⟨none, 0, rfl⟩, BSl.nil _, fun b q => by simp [Value.ownBlock] at q⟩ r1 r2 r3
               have z1 := r4.keep.cell (hf 1 y rfl) (fun q => q)
               have z2 := r4.keep.cell (hf 2 z rfl) (fun q => q)
               rw [hyY] at z1
               rw [hzZ] at z2
               have N6 := Lib.hid r4
               clear r1 r2 r3 r4))
          go_wp2
          go_roundg (bl - 3)
          case measure => omega
          case rel => exact ⟨(x :: y :: z :: s).drop (3), xs ++ [((⟨x.toNat, 0, (Y : Int) * 256 + (Z : Int), CallV.none⟩ : ItemV), Value.slice none 0 0)], by rw [List.length_drop, HRL.out] <;> omega, tail_in HS.out.2.1 HRL.out (by omega), N6.out, dec_next HN.out (by omega) HXL.out, by rw [List.length_append, HXL.out, List.length_singleton]; omega⟩

end Go.Proofs.Ytmokbgihpfnmbaa
