/-
  Shrink.
-/
import Derived.Test.YtjicoebcmfnooaaDoorLru5
namespace Go.Proofs.YtjicoebcmfnooaaDoor
open Go Go.RowKit Go.Shelf
set_option linter.unusedSectionVars false
set_option linter.unusedSimpArgs false
set_option linter.unusedVariables false
attribute [local go_sem] Oper.semAt_some

def dropAll (L : List Pair) (ks : List ByteArray) : List Pair := ks.foldl adel L
def gone (L : List Pair) (n : Int) : List ByteArray := (looseL L).take n.toNat

/-- The boxes of Shrink. -/
structure ShrW (w wx : World) (lb : Nat) (S : Nat → Prop) (most : Int) (L : List Pair) (n : Int) (v : Value) (out : List ByteArray) : Prop where
  keep : Keep w wx (fun _ => False)
  list : ListAt wx lb S most L
  b0 : wx.heap[w.heap.size]? = some (.cells #[.int .i64 n] 3 (0, 0))
  b1 : wx.heap[w.heap.size + 1]? = some (.cells #[v] 56 (0, 0))
  row : wx.ownsRow 0 9 1 v out.length (out.map Value.string)
  new : ∀ b, v.ownBlock = some b → w.heap.size + 1 + 1 ≤ b

section
variable {w wx wy : World} {lb : Nat} {S : Nat → Prop} {most : Int} {L : List Pair} {n : Int} {v : Value} {out : List ByteArray}

theorem ShrW.far {B : Nat} (h : ShrW w wx lb S most L n v out) (hS : ∀ b, S b → b < w.heap.size) (hB : w.heap.size + 1 + 1 ≤ B) (k : Keep wx wy (fun b => B ≤ b ∧ ∃ o, wx.heap[b]? = some o ∧ o.isCells = false)) : ShrW w wy lb S most L n v out := by
  refine ⟨h.keep.trans k (fun b q => .inr (by have := q.1; omega)), h.list.keep k (fun b q z => by have := hS b q; have := z.1; omega), k.get h.b0 (fun z => by have := z.1; omega), k.get h.b1 (fun z => by have := z.1; omega), rows_keep h.row k (fun b q z => ?_), h.new⟩
  rcases h.row.2 with ⟨rfl, _⟩ | ⟨g, cap, cur, rfl, _, hb, _⟩
  · simp [Value.ownBlock] at q
  · simp only [Value.ownBlock, Option.some.injEq] at q
    subst q
    exact not_cells hb z.2

theorem ShrW.aside (h : ShrW w wx lb S most L n v out) (k : Keep wx wy (fun _ => False)) : ShrW w wy lb S most L n v out :=
  ⟨h.keep.trans k (fun _ q => q.elim), h.list.aside k, k.get h.b0 (fun q => q), k.get h.b1 (fun q => q), rows_keep h.row k (fun _ _ q => q), h.new⟩

theorem ShrW.push {w8 : World} {sa a8 : Option Addr} {k cap cap8 : Nat} {x : ByteArray} (h : ShrW w wx lb S most L n (.slice sa k cap) out) (hS : ∀ b, S b → b < w.heap.size) (hk : out.length = k)
    (q1 : w8.ownsRow 0 9 1 (.slice a8 (k + 1) cap8) (k + 1) (out.map Value.string ++ [.string x])) (q2 : Keep wx w8 (fun b => (Value.slice sa k cap).ownBlock = some b)) (q3 : ∀ b, (Value.slice a8 (k + 1) cap8).ownBlock = some b → (Value.slice sa k cap).ownBlock = some b ∨ wx.heap.size ≤ b) :
    ShrW w (w8.setCell ⟨w.heap.size + 1, 0, none⟩ (.slice a8 (k + 1) cap8)) lb S most L n (.slice a8 (k + 1) cap8) (out ++ [x]) ∧ KeepsFrom (w.heap.size + 1 + 1 + 1) wx (w8.setCell ⟨w.heap.size + 1, 0, none⟩ (.slice a8 (k + 1) cap8)) ∧
      Below w.heap.size wx (w8.setCell ⟨w.heap.size + 1, 0, none⟩ (.slice a8 (k + 1) cap8)) := by
  have k5 := Keep.setCell w8 ⟨w.heap.size + 1, 0, none⟩ (.slice a8 (k + 1) cap8)
  have hb1 := lt_of_blk h.b1
  have kk : Keep wx (w8.setCell ⟨w.heap.size + 1, 0, none⟩ (.slice a8 (k + 1) cap8)) (fun b => (Value.slice sa k cap).ownBlock = some b ∨ b = w.heap.size + 1) := (q2.mono (fun b q => .inl q)).trans k5 (fun b q => .inl (.inr q))
  have hge : ∀ b, ((Value.slice sa k cap).ownBlock = some b ∨ b = w.heap.size + 1) → w.heap.size + 1 ≤ b := fun b q => by
    rcases q with q | q
    · have := h.new b q; omega
    · omega
  have b8 := q2.get h.b1 (fun q => by have := h.new _ q; omega)
  refine ⟨⟨h.keep.trans kk (fun b q => .inr (by have := hge b q; omega)), h.list.keep kk (fun b q z => by have := hS b q; have := hge b z; omega), kk.get h.b0 (fun q => by have := hge _ q; omega), heap_setCell_eq (.slice a8 (k + 1) cap8) (off := 0) b8, ?_, fun b q => ?_⟩, ?_, kk.below (by omega) (fun b q => by have := hge b q; omega)⟩
  · have := rows_keep q1 k5 (fun b q z => by
      have hz : b = w.heap.size + 1 := z
      rcases q3 b q with y | y
      · have := h.new b y; omega
      · omega)
    rw [List.length_append, List.length_singleton, hk, List.map_append]
    exact this
  · rcases q3 b q with y | y
    · exact h.new b y
    · omega
  · refine ⟨kk.size, fun j o hB hj ho => ?_⟩
    rw [kk.block j (lt_of_blk hj) (fun q => ?_)]
    · exact hj
    · rcases q with q | q
      · rcases h.row.2 with ⟨e, _⟩ | ⟨g, cap, cur, e, _, hb, _⟩
        · rw [e] at q; simp [Value.ownBlock] at q
        · rw [e] at q
          simp only [Value.ownBlock, Option.some.injEq] at q
          subst q
          exact not_cells hb ⟨o, hj, ho⟩
      · omega
end

set_option maxRecDepth 100000 in
set_option maxHeartbeats 4000000 in
theorem shrink_c {w : World} {lb : Nat} {S : Nat → Prop} {most : Int} {L : List Pair} (h : ListAt w lb S most L) (hl : L.length ≤ 100000) (n : Int) :
    Calls Tryd.prog 29 #[.pointer (some ⟨lb, 0, none⟩), .int .i64 n] w fun r w' => ∃ v, r = .returned v ∧ ListAt w' lb S most (dropAll L (gone L n)) ∧ Keep w w' S ∧ w'.ownsRow 0 9 1 v (gone L n).length ((gone L n).map Value.string) ∧ ∀ b, v.ownBlock = some b → w.heap.size ≤ b := by
  have H := Lib.hid h
  clear h
  refine calls_marks Tryd.func29 rfl ?_
  simp only [Tryd.ntmps29, List.size_toArray, List.length_cons, List.length_nil, Nat.reduceAdd, Nat.reduceSub, Array.replicate_succ, Array.replicate_zero, List.push_toArray, List.append_toArray, List.nil_append, List.cons_append]
  go_wp2_with (
    go_at_call 40
    refine (loose_c _ _).mono ?_
    rintro e w11 ⟨rfl, rfl⟩)
  obtain ⟨wL, hwL⟩ : ∃ wL, wL = ((w.alloc (.cells #[.int .i64 n] 3)).alloc (.cells #[.slice none 0 0] 56)).alloc (.cells #[.pointer (some ⟨lb, 0, none⟩)] 40) := ⟨_, rfl⟩
  have W0 : ShrW w wL lb S most L n (.slice none 0 0) [] ∧ wL.heap[w.heap.size + 1 + 1]? = some (.cells #[.pointer (some ⟨lb, 0, none⟩)] 40 (0, 0)) ∧ wL.heap.size = w.heap.size + 1 + 1 + 1 := by
    rw [hwL]
    clear hwL
    have k1 := Keep.alloc w (.cells #[.int .i64 n] 3) (fun _ => False)
    have g1 := heap_alloc_eq w (.cells #[.int .i64 n] 3)
    have z1 : (w.alloc (.cells #[.int .i64 n] 3)).heap.size = w.heap.size + 1 := by simp
    generalize w.alloc (.cells #[.int .i64 n] 3) = w1 at *
    have k2 := Keep.alloc w1 (.cells #[.slice none 0 0] 56) (fun _ => False)
    have g2 := heap_alloc_eq w1 (.cells #[.slice none 0 0] 56)
    have z2 : (w1.alloc (.cells #[.slice none 0 0] 56)).heap.size = w1.heap.size + 1 := by simp
    generalize w1.alloc (.cells #[.slice none 0 0] 56) = w2 at *
    have k3 := Keep.alloc w2 (.cells #[.pointer (some ⟨lb, 0, none⟩)] 40) (fun _ => False)
    have g3 := heap_alloc_eq w2 (.cells #[.pointer (some ⟨lb, 0, none⟩)] 40)
    have z3 : (w2.alloc (.cells #[.pointer (some ⟨lb, 0, none⟩)] 40)).heap.size = w2.heap.size + 1 := by simp
    rw [z1] at g2 z2; rw [z2] at g3 z3
    have k23 := k2.trans k3 (fun _ q => q.elim)
    have k13 := k1.trans k23 (fun _ q => q.elim)
    exact ⟨⟨k13, H.out.aside k13, k23.get g1 (fun q => q), k3.get g2 (fun q => q), rows_nil _ _ _, fun b q => by simp [Value.ownBlock] at q⟩, g3, z3⟩
  have HW := Lib.hid W0
  clear W0
  rw [← hwL]
  clear hwL
  have hSw : ∀ b, S b → b < w.heap.size := H.out.lt
  have hsz := HW.out.2.2
  have HI : Hid (∃ i, Tryd.prog.info? 9 = some i ∧ i.zero = some (.string ByteArray.empty) ∧ i.size = 1 ∧ i.bytes ≤ 64) := Lib.hid str_info
  refine wp_range1 (α := ByteArray) (enc := fun x => .string x) (j := 6) (gf := 51) (lb := #[.pointer (some ⟨w.heap.size + 1 + 1, 0, none⟩)]) rfl (enters_of Tryd.func51 (by kernel_rfl) rfl)
    (loose_stops 8 (by omega) (w.heap.size + 1 + 1) lb w.heap.size S most L (by omega) wL (by rw [cell_blk HW.out.2.1]; rfl) (by omega) HW.out.1.list hSw (by omega)) (by omega)
    (fun pre W => (pre = [] ∨ (pre.length : Int) ≤ n) ∧ ∃ v, ShrW w W lb S most L n v pre)
    (fun c pre W => c = .exit 0 ∧ ∃ pre' s, pre = pre' ++ [s] ∧ (pre' = [] ∨ (pre'.length : Int) ≤ n) ∧ n ≤ pre'.length ∧ ∃ v, ShrW w W lb S most L n v pre')
    (own_of fun s W W' h k => ⟨h.1, by obtain ⟨v, hv⟩ := h.2; exact ⟨v, hv.far hSw (by omega) k⟩⟩)
    (fun c => own_of fun s W W' h k => ⟨h.1, by obtain ⟨_, pre', s, h1, h2, h3, v, h4⟩ := h; exact ⟨pre', s, h1, h2, h3, v, h4.far hSw (by omega) k⟩⟩)
    ⟨.inl rfl, _, HW.out.1⟩ ?assign ?body ?done ?stop
  case assign =>
    intro l x W K hK
    gi_wp2
    exact hK
  case body =>
    rintro l pre x W ⟨hpl, v, hW⟩ hlt
    have hn1 : 1 ≤ 7 := by omega
    simp only [List.setIfInBounds_toArray, List.set_cons_succ, List.set_cons_zero]
    obtain ⟨sa, cap, rfl, hcap⟩ := rows_val2 hW.row
    have c0 := cell_blk hW.b0 0
    have c1 := cell_blk hW.b1 0
    have f1 := free_blk hW.b1 0
    simp only [List.getElem?_toArray, List.getElem?_cons_zero, List.getElem?_cons_succ] at c0 c1
    have D := Lib.hid (And.intro hW hpl)
    have hk : pre.length ≤ 100000 := by omega
    generalize hln : pre.length = k at *
    have HK := Lib.hid hln
    clear hW hpl hln hlt
    by_cases hge : n ≤ k
    · have hge' : (k : Int) ≥ n := hge
      gi_wp2
      refine ⟨KeepsFrom.refl _ _, rfl, pre, x, rfl, D.out.2.imp id (fun z => by rw [HK.out]; exact z), by rw [HK.out]; exact hge, _, D.out.1⟩
    · have hge' : ¬ (k : Int) ≥ n := hge
      have hge2 : (k : Int) < n := by omega
      obtain ⟨ti, ti1, ti2, ti3, ti4⟩ := HI.out
      have HJ := Lib.hid (And.intro ti1 (And.intro ti2 (And.intro ti3 ti4)))
      have hz1 : (Value.string ByteArray.empty).cells.size = 1 := rfl
      clear ti1 ti2 ti3 ti4
      have hrow := Lib.hid (show W.ownsRow 0 9 1 (.slice sa k cap) k (pre.map Value.string) from by have := D.out.1.row; rw [HK.out] at this; exact this)
      gi_wp2_with (
        gi_at_builtin
        refine law_pushIn rfl _ _ _ rfl Tryd.underlying56 HJ.out.1 HJ.out.2.1 HJ.out.2.2.1 HJ.out.2.2.2 hz1 hrow.out rfl (.string x) rfl rfl rfl (by omega) ?_
        intro a8 cap8 w8 q1 q2 q3
        have hnb : ¬ (Value.slice sa k cap).ownBlock = some (w.heap.size + 1) := fun q => by have := D.out.1.new _ q; omega
        have b8 := q2.get D.out.1.b1 hnb
        have d1 : w8.cell? ⟨w.heap.size + 1, 0, none⟩ = some (.slice sa k cap) := by rw [cell_blk b8]; rfl
        have d2 : w8.frozen? ⟨w.heap.size + 1, 0, none⟩ = false := free_blk b8 _
        have N := Lib.hid (And.intro q1 (And.intro q2 (And.intro q3 b8)))
        clear q1 q2 q3 hnb b8)
      obtain ⟨p1, p2, p3⟩ := D.out.1.push (x := x) hSw HK.out N.out.1 N.out.2.1 N.out.2.2.1
      exact ⟨p2, p3, .inr (by rw [List.length_append, List.length_singleton, HK.out]; omega), _, p1⟩
  case' done =>
    rintro D xs W hD rfl ⟨hpl, v, hW⟩ hK
    obtain ⟨out, hout⟩ : ∃ out, out = looseL L := ⟨_, rfl⟩
    have hg : out = gone L n := by
      unfold gone
      rw [← hout]
      rcases hpl with q | q
      · rw [← hout] at q; rw [q]; simp
      · rw [← hout] at q; rw [List.take_of_length_le (by omega)]
    rw [← hout] at hW
    clear hpl hout
  case' stop =>
    rintro D c pre W hD hpre ⟨rfl, pre', s, rfl, hpl, hge, v, hW⟩ hK
    obtain ⟨out, hout⟩ : ∃ out, out = pre' := ⟨_, rfl⟩
    have hg : out = gone L n := by
      unfold gone
      obtain ⟨t, ht⟩ := hpre
      rw [← ht, hout, List.append_assoc]
      rcases hpl with q | q
      · subst q; simp at hge; rw [show n.toNat = 0 by omega]; simp
      · rw [List.take_append_of_le_length (by omega), List.take_of_length_le (by omega)]
    rw [← hout] at hW
    clear hpl hout hge hpre
  all_goals
    obtain ⟨sa, cap, rfl, hcap⟩ := rows_val2 hW.row
    have c1 := cell_blk hW.b1 0
    simp only [List.getElem?_toArray, List.getElem?_cons_zero, List.getElem?_cons_succ] at c1
    have D2 := Lib.hid (And.intro hW (And.intro hK hg))
    have hol : out.length ≤ 100000 := by
      rw [hg]
      unfold gone
      rw [List.length_take]
      have := looseL_len L
      omega
    generalize hln : out.length = k at *
    have HK := Lib.hid hln
    clear hW hK hg hln
    go_wp2
  all_goals
    go_loopg [22] k (fun g s22 wr => ∃ i : Nat, s22 = .int .i64 i ∧ i + g = k ∧ ListAt wr lb S most (dropAll L (out.take i)) ∧ Keep W wr S)
    case atStart => exact ⟨0, rfl, by omega, by simpa [dropAll] using D2.out.1.list, Keep.refl _ _⟩
    case round =>
      obtain ⟨i, rfl, hi, hLi, hKi⟩ := hrel
      have E := Lib.hid (And.intro hLi hKi)
      clear hLi hKi
      have hno : ∀ b, (Value.slice sa k cap).ownBlock = some b → ¬ S b := fun b q z => by have := D2.out.1.new b q; have := hSw b z; omega
      by_cases hlt : i < k
      · have hlt' : (i : Int) < (k : Int) := by omega
        have hrow := rows_keep D2.out.1.row E.out.2 hno
        obtain ⟨x, hx⟩ : ∃ x, out[i]? = some x := ⟨_, List.getElem?_eq_getElem (by rw [HK.out]; exact hlt)⟩
        obtain ⟨g, rfl, -, -, -⟩ := rows_some hrow (by rw [HK.out]; omega)
        have c2 := (rows_cell hrow (mapGet (f := Value.string) hx)).1
        have htk := Lib.hid (show dropAll L (out.take (i + 1)) = adel (dropAll L (out.take i)) x by rw [List.take_add_one, hx]; simp [dropAll])
        have hll : (dropAll L (out.take i)).length ≤ 1000000 := by
          have : ∀ (ks : List ByteArray) (M : List Pair), (dropAll M ks).length ≤ M.length := by
            intro ks
            induction ks with
            | nil => intro M; exact Nat.le_refl _
            | cons y r ih => intro M; exact Nat.le_trans (ih (adel M y)) ((adel_sub M y).length_le)
          have := this (out.take i) L
          omega
        have hdr := drop_c E.out.1 hll x
        clear hrow hx hno hll
        go_wp2_with (
          go_at_call 26
          refine hdr.mono ?_
          rintro e w6 ⟨rfl, q1, q2⟩
          have N := Lib.hid (And.intro q1 q2)
          clear hdr q1 q2)
        go_roundg (k - (i + 1))
        case measure => omega
        case rel => exact ⟨i + 1, rfl, by omega, by rw [htk.out]; exact N.out.1, E.out.2.trans N.out.2 (fun b q => .inl q)⟩
      · have hlt' : ¬ (i : Int) < (k : Int) := by omega
        have F := Lib.hid (show ListAt wr lb S most (dropAll L out) from by have := E.out.1; rw [List.take_of_length_le (by rw [HK.out]; omega)] at this; exact this)
        have hb1 := E.out.2.get D2.out.1.b1 (fun q => by have := hSw _ q; omega)
        have c2 : wr.cell? ⟨w.heap.size + 1, 0, none⟩ = some (.slice sa k cap) := by rw [cell_blk hb1]; rfl
        clear hb1
        go_wp2
        have hDS : ¬ S D := fun q => by have := hSw _ q; omega
        refine leaves_mark (E.out.2.get D2.out.2.1 hDS) fun w' k' => ⟨.slice sa k cap, by simp [results, Tryd.results29, go_sem], _, rfl, ?_⟩
        have kr : Keep wr w' (fun b => wL.heap.size ≤ b ∧ ∃ o, wr.heap[b]? = some o ∧ o.isCells = false) := k'.mono fun b q => by
          have q' : b = D := q
          subst q'
          exact ⟨hD, _, E.out.2.get D2.out.2.1 hDS, rfl⟩
        have hrow := rows_keep D2.out.1.row E.out.2 hno
        rw [← D2.out.2.2]
        have kB := (D2.out.1.keep.mono (T := S) (fun _ q => q.elim)).trans E.out.2 (fun b q => .inl q)
        refine ⟨F.out.keep kr (fun b q z => by have := hSw b q; have := z.1; omega), kB.trans kr (fun b q => .inr (by have := q.1; omega)), ?_, fun b q => by have := D2.out.1.new b q; omega⟩
        rw [HK.out] at hrow ⊢
        refine rows_keep hrow kr (fun b q z => ?_)
        rcases hrow.2 with ⟨e, _⟩ | ⟨g, cap9, cur, e, _, hb, _⟩
        · rw [e] at q; simp [Value.ownBlock] at q
        · rw [e] at q
          simp only [Value.ownBlock, Option.some.injEq] at q
          subst q
          exact not_cells hb z.2

end Go.Proofs.YtjicoebcmfnooaaDoor
