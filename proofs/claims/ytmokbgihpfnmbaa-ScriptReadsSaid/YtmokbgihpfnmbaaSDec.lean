/-
  Scripts are read (script.Decode).
-/
import Derived.Test.YtmokbgihpfnmbaaItems2
import Derived.Test.YtmokbgihpfnmbaaBSr
namespace Go.Proofs.Ytmokbgihpfnmbaa
open Go Go.RowKit Go.Shelf
set_option linter.unusedSectionVars false
set_option linter.unusedSimpArgs false
set_option linter.unusedVariables false
attribute [local go_sem] Oper.semAt_some

def pairC (x : ItemD) : List Value := itemC x.1 x.2
theorem pairC_len (x : ItemD) : (pairC x).length = 12 := rfl

/-- Data that are what the item says. -/
def GoodD (w : World) (x : ItemD) : Prop := (∃ a cap, x.2 = .slice a x.1.call.data.length cap) ∧ BSr w x.2 x.1.call.data

/-- v is a slice of items: those of L. -/
def ItemsIn (w : World) (v : Value) (L : List ItemV) : Prop :=
  ∃ xs : List ItemD, xs.map Prod.fst = L ∧ (∀ x ∈ xs, GoodD w x) ∧ ∃ a cap, v = .slice a L.length cap ∧ L.length ≤ cap ∧ cap ≤ maxLen ∧
    (L = [] ∨ ∃ b off, a = some ⟨b, off, none⟩ ∧ b < w.heap.size ∧ ∀ i u, (flat pairC xs)[i]? = some u → w.cell? ⟨b, off + i, none⟩ = some u)

theorem ItemsIn.aside {w w' : World} {v : Value} {L : List ItemV} (h : ItemsIn w v L) (k : Keep w w' (fun _ => False)) : ItemsIn w' v L := by
  obtain ⟨xs, h1, h2, a, cap, h3, h4, h5, h6⟩ := h
  refine ⟨xs, h1, fun x hx => ⟨(h2 x hx).1, (h2 x hx).2.aside k⟩, a, cap, h3, h4, h5, ?_⟩
  rcases h6 with h6 | ⟨b, off, e, hb, hc⟩
  · exact .inl h6
  · exact .inr ⟨b, off, e, Nat.lt_of_lt_of_le hb k.size, fun i u hi => k.cell (hc i u hi) (fun q => q)⟩

theorem cell_mark {w w' : World} {D : Nat} {o : Obj} (hD : w.heap[D]? = some o) (ho : o.isCells = false) (k : Keep w w' (fun b => b = D)) {b i : Nat} {u : Value} (h : w.cell? ⟨b, i, none⟩ = some u) : w'.cell? ⟨b, i, none⟩ = some u :=
  k.cell h (fun q => by
    have q' : b = D := q
    subst q'
    unfold World.cell? at h
    rw [hD] at h
    cases o <;> simp [Obj.isCells] at ho h)

theorem BSl.mark {w w' : World} {D : Nat} {o : Obj} {v : Value} {l : Bs} (h : BSl w v l) (hD : w.heap[D]? = Option.some o) (ho : o.isCells = false) (k : Keep w w' (fun b => b = D)) : BSl w' v l := by
  rcases h with h | ⟨b, off, cap, rfl, h1, h2, h3, h4⟩
  · exact .inl h
  · exact .inr ⟨b, off, cap, rfl, h1, h2, Nat.lt_of_lt_of_le h3 k.size, fun i u hi => cell_mark hD ho k (h4 i u hi)⟩

theorem BSr.mark {w w' : World} {D : Nat} {o : Obj} {v : Value} {l : Bs} (h : BSr w v l) (hD : w.heap[D]? = Option.some o) (ho : o.isCells = false) (k : Keep w w' (fun b => b = D)) : BSr w' v l := h.imp (fun h => h.mark hD ho k) id

/-- A block that is given up holds none of it. -/
theorem ItemsIn.mark {w w' : World} {D : Nat} {v : Value} {L : List ItemV} (h : ItemsIn w v L) {ds : Option (List Deferred)} (hD : w.heap[D]? = some (.deferred ds)) (k : Keep w w' (fun b => b = D)) : ItemsIn w' v L := by
  obtain ⟨xs, h1, h2, a, cap, h3, h4, h5, h6⟩ := h
  refine ⟨xs, h1, fun x hx => ⟨(h2 x hx).1, (h2 x hx).2.mark hD rfl k⟩, a, cap, h3, h4, h5, ?_⟩
  rcases h6 with h6 | ⟨b, off, e, hb, hc⟩
  · exact .inl h6
  · exact .inr ⟨b, off, e, Nat.lt_of_lt_of_le hb k.size, fun i u hi => cell_mark hD rfl k (hc i u hi)⟩

theorem ItemsIn.val {w : World} {v : Value} {L : List ItemV} (h : ItemsIn w v L) : ∃ a cap, v = .slice a L.length cap ∧ L.length ≤ cap ∧ cap ≤ maxLen := by
  obtain ⟨xs, h1, h2, a, cap, h3, h4, h5, h6⟩ := h
  exact ⟨a, cap, h3, h4, h5⟩

theorem item_info : ∃ i, Try.prog.info? 39 = some i ∧ i.zero = some (itemA ItemV.none (.slice none 0 0)) ∧ i.size = 12 ∧ i.bytes ≤ 128 := by
  refine ⟨_, rfl, ?_, ?_, ?_⟩
  · kernel_rfl
  · kernel_rfl
  · decide +kernel

theorem clip_c (w : World) (a : Option Addr) (n cap : Nat) (h : n ≤ cap) (hc : cap ≤ maxLen) (ha : a = none → n = 0 ∧ cap = 0) :
    Calls Try.prog 23 #[.slice a n cap] w fun r w' => r = .returned (.slice a n n) ∧ w' = w := by
  unfold maxLen at hc
  cases a with
  | none =>
    obtain ⟨rfl, rfl⟩ := ha rfl
    go_enter Try.func23, Try.ntmps23
    go_wp2
    go_ret
    exact ⟨rfl, rfl⟩
  | some ad =>
    have g1 : (n : Int) ≤ (cap : Int) := by omega
    go_enter Try.func23, Try.ntmps23
    go_wp2
    go_ret
    exact ⟨rfl, rfl⟩

/-- Decode on its way. -/
structure SDW (w W : World) (pre : List ItemD) (v : Value) : Prop where
  keep : Keep w W (fun _ => False)
  box : W.heap[w.heap.size]? = some (.cells #[v] 23 (0, 0))
  row : W.ownsRow 0 39 12 v pre.length (flat pairC pre)
  new : ∀ b, v.ownBlock = some b → w.heap.size + 1 < b
  le : pre.length ≤ 1024
  sz : w.heap.size + 1 < W.heap.size

theorem SDW.own {w W U : World} {pre : List ItemD} {v : Value} (h : SDW w W pre v) {B : Nat} (hB : w.heap.size ≤ B) (k : Keep W U (fun b => B ≤ b ∧ ∃ o, W.heap[b]? = some o ∧ o.isCells = false)) : SDW w U pre v := by
  refine ⟨h.keep.trans k (fun b q => .inr (by omega)), k.get h.box (fun q => not_cells h.box q.2), rows_keep h.row k (fun b q z => ?_), h.new, h.le, Nat.lt_of_lt_of_le h.sz k.size⟩
  rcases h.row.2 with ⟨e, _⟩ | ⟨g, cap, cur, e, _, hb, _⟩
  · rw [e] at q; simp [Value.ownBlock] at q
  · rw [e] at q
    simp only [Value.ownBlock, Option.some.injEq] at q
    subst q
    exact not_cells hb z.2

theorem SDW.aside {w W U : World} {pre : List ItemD} {v : Value} (h : SDW w W pre v) (k : Keep W U (fun _ => False)) : SDW w U pre v :=
  ⟨h.keep.trans k (fun b q => q.elim), k.get h.box (fun q => q), rows_keep h.row k (fun b q z => z), h.new, h.le, Nat.lt_of_lt_of_le h.sz k.size⟩

theorem SDW.bx {w W : World} {pre : List ItemD} {v : Value} (h : SDW w W pre v) : w.heap.size < W.heap.size := lt_of_blk h.box

theorem SDW.rowb {w W : World} {pre : List ItemD} {v : Value} (h : SDW w W pre v) (x : Nat) : Rowb w.heap.size W x ↔ (x = w.heap.size ∨ v.ownBlock = some x) := by
  unfold Rowb
  rw [cell_blk h.box]
  constructor
  · rintro (q | ⟨u, q1, q2⟩)
    · exact .inl q
    · simp at q1; subst q1; exact .inr q2
  · rintro (q | q)
    · exact .inl q
    · exact .inr ⟨v, rfl, q⟩

theorem own_lt {w : World} {e : TypeId} {sz : Nat} {v : Value} {n : Nat} {xs : List Value} (h : w.ownsRow 0 e sz v n xs) : ∀ b, v.ownBlock = some b → b < w.heap.size := by
  intro b q
  rcases rows_val h with ⟨rfl, _⟩ | ⟨g, cap, rfl, _, h2, h3⟩
  · simp [Value.ownBlock] at q
  · rw [h2] at q; cases q; exact h3

/-- One more: the row is another one now, its cell too. -/
theorem SDW.push {w W U0 U : World} {pre : List ItemD} {v v' : Value} (h : SDW w W pre v) (x : ItemD) (hl : pre.length < 1024) (k0 : Keep W U0 (fun _ => False)) (hrow : U.ownsRow 0 39 12 v' (pre.length + 1) (flat pairC pre ++ pairC x)) (k : Keep U0 U (fun b => some b = v.ownBlock))
    (hn : ∀ b, v'.ownBlock = some b → v.ownBlock = some b ∨ b = U0.heap.size) :
    SDW w (U.setCell ⟨w.heap.size, 0, none⟩ v') (pre ++ [x]) v' ∧ Kr w.heap.size W (U.setCell ⟨w.heap.size, 0, none⟩ v') ∧ Keep W (U.setCell ⟨w.heap.size, 0, none⟩ v') (fun b => b = w.heap.size ∨ v.ownBlock = some b) := by
  have h0 := h.aside k0
  have hbx : ¬ some w.heap.size = v.ownBlock := fun q => by have := h.new _ q.symm; omega
  have hbU := k.get h0.box hbx
  have kS := Keep.setCell U ⟨w.heap.size, 0, none⟩ v'
  have hz0 := k0.size
  have hz1 := k.size
  have hbW := h.bx
  have hK : Keep W (U.setCell ⟨w.heap.size, 0, none⟩ v') (fun b => b = w.heap.size ∨ v.ownBlock = some b) :=
    (k0.mono (T := fun b => b = w.heap.size ∨ v.ownBlock = some b) (fun _ q => q.elim)).trans ((k.mono (T := fun b => b = w.heap.size ∨ v.ownBlock = some b) (fun b q => .inr q.symm)).trans kS (fun b q => .inl (.inl q))) (fun b q => .inl q)
  have hnew : ∀ b, v'.ownBlock = some b → w.heap.size + 1 < b := fun b q => by
    rcases hn b q with z | z
    · exact h.new b z
    · have := h.sz
      omega
  have S : SDW w (U.setCell ⟨w.heap.size, 0, none⟩ v') (pre ++ [x]) v' := by
    refine ⟨h.keep.trans hK (fun b q => .inr (q.elim (fun q => by omega) (fun q => by have := h.new b q; omega))), heap_setCell_eq (off := 0) _ hbU, ?_, hnew, by rw [List.length_append, List.length_singleton]; omega, Nat.lt_of_lt_of_le h.sz hK.size⟩
    have := rows_keep hrow kS (fun b q z => by have := hnew b q; have z' : b = w.heap.size := z; omega)
    rw [List.length_append, List.length_singleton, flat_append]
    simpa [flat] using this
  refine ⟨S, ⟨hK.size, fun b o hb _ hr => hK.get hb (fun q => hr ((h.rowb b).2 q)), fun b q => ?_, fun hlow b q => ?_⟩, hK⟩
  · rcases (S.rowb b).1 q with q | q
    · exact .inl (.inl q)
    · rcases hn b q with z | z
      · exact .inl ((h.rowb b).2 (.inr z))
      · exact .inr (by omega)
  · rcases (S.rowb b).1 q with q | q
    · have := S.bx; omega
    · have := own_lt S.row b q; exact this

set_option maxRecDepth 100000 in
set_option maxHeartbeats 4000000 in
theorem sdec_r {w : World} {v : Value} {b : Bs} (hb : BSr w v b) :
    Calls Try.prog 13 #[v] w fun r w' => ∃ u, r = .returned u ∧ ItemsIn w' u (decS 1024 b) ∧ Keep w w' (fun _ => False) := by
  obtain ⟨a0, cap0, rfl, hlc, hcm⟩ : ∃ a cap, v = .slice a b.length cap ∧ b.length ≤ cap ∧ cap ≤ maxLen := by
    rcases hb with h | ⟨rfl, ad, cap, rfl, hc⟩
    · exact h.val
    · exact ⟨_, _, rfl, Nat.zero_le _, hc⟩
  have hW0 : ∃ wL, wL = (w.alloc (.cells #[.slice none 0 0] 23)).alloc (.cells #[.slice a0 b.length cap0] 22) ∧ SDW w wL [] (.slice none 0 0) ∧ ItW wL wL w.heap.size (w.heap.size + 1) (.slice a0 b.length cap0) b 0 [] ∧ wL.heap.size = w.heap.size + 1 + 1 := by
    refine ⟨_, rfl, ?_⟩
    have k1 := Keep.alloc w (.cells #[.slice none 0 0] 23) (fun _ => False)
    have g1 := heap_alloc_eq w (.cells #[.slice none 0 0] 23)
    have z1 : (w.alloc (.cells #[.slice none 0 0] 23)).heap.size = w.heap.size + 1 := by simp
    generalize w.alloc (.cells #[.slice none 0 0] 23) = w1 at *
    have k2 := Keep.alloc w1 (.cells #[.slice a0 b.length cap0] 22) (fun _ => False)
    have g2 := heap_alloc_eq w1 (.cells #[.slice a0 b.length cap0] 22)
    have z2 : (w1.alloc (.cells #[.slice a0 b.length cap0] 22)).heap.size = w1.heap.size + 1 := by simp
    generalize w1.alloc (.cells #[.slice a0 b.length cap0] 22) = w2 at *
    rw [z1] at g2 z2
    have k12 := k1.trans k2 (fun _ q => q.elim)
    have b1 := k2.get g1 (fun q => q)
    have S : SDW w w2 [] (.slice none 0 0) := ⟨k12, b1, rows_nil _ _ _, fun b q => by simp [Value.ownBlock] at q, Nat.zero_le _, by omega⟩
    have hr : ∀ x, Rowb w.heap.size w2 x → x = w.heap.size := fun x q => by
      rcases (S.rowb x).1 q with q | q
      · exact q
      · simp [Value.ownBlock] at q
    refine ⟨S, ⟨Nat.zero_le _, by simp, fun x q => by rw [hr x q]; omega, by omega, Nat.le_refl _, g2, fun q => by have := hr _ q; omega, hb.imp (fun h => ⟨h.aside k12, fun x q z => by have := h.lt x q; have := hr x z; omega⟩) id, fun x hx => by simp at hx⟩, z2⟩
  obtain ⟨wL, hwL, S0, I0, hz⟩ := hW0
  have HS := Lib.hid (And.intro S0 I0)
  have HZ := Lib.hid hz
  clear S0 I0 hz hb
  generalize hbl : b.length = bl at *
  refine calls_marks Try.func13 rfl ?_
  simp only [Try.ntmps13, List.size_toArray, List.length_cons, List.length_nil, Nat.reduceAdd, Nat.reduceSub, Array.replicate_succ, Array.replicate_zero, List.push_toArray, List.append_toArray, List.nil_append, List.cons_append]
  go_wp2_with (
    go_at_call 22
    refine (items_c _ _ _ _).mono ?_
    rintro e w11 ⟨rfl, rfl⟩)
  rw [← hwL]
  clear hwL
  have hsz := HZ.out
  refine wp_rangeG (α := ItemD) (enc := fun x => itemA x.1 x.2) (j := 4) (gf := 34) (lb := #[.pointer (some ⟨w.heap.size + 1, 0, none⟩)]) rfl (enters_of Try.func34 (by kernel_rfl) rfl)
    (items_seq (w.heap.size + 1) w.heap.size wL wL _ b HS.out.2) (fun h k => h.trans k) (Kr.back (by omega)) (fun x W W' row h _ _ => h)
    (fun pre W => ∃ v, SDW w W pre v)
    (fun c pre W => c = .exit 0 ∧ ∃ pre' x, pre = pre' ++ [x] ∧ pre'.length = 1024 ∧ ∃ v, SDW w W pre' v)
    (own_of fun s W W' h k => h.elim fun v h => ⟨v, h.own (by omega) k⟩)
    (fun c => own_of fun s W W' h k => ⟨h.1, by obtain ⟨_, p, x, h1, h2, v, h3⟩ := h; exact ⟨p, x, h1, h2, v, h3.own (by omega) k⟩⟩)
    ⟨_, HS.out.1⟩ ?S ?Sp
    (fun x act W => ∃ ib, act.defers = [] ∧ act.tmps = #[.slice a0 bl cap0, undef, .slice none 0 0, .pointer (some ⟨w.heap.size, 0, none⟩), .pointer (some ⟨ib, 0, none⟩), .slice a0 bl cap0, .func (.func 34) #[] #[.pointer (some ⟨w.heap.size + 1, 0, none⟩)], itemA x.1 x.2, undef, undef, undef, undef, undef, undef, undef, undef, undef] ∧ W.heap[ib]? = some (.cells (itemC x.1 x.2).toArray 39 (0, 0)))
    (fun x act => own_of fun _ W W' h k => by obtain ⟨ib, h1, h2, h3⟩ := h; exact ⟨ib, h1, h2, k.get h3 (fun q => not_cells h3 q.2)⟩)
    ?assign ?body ?done ?stop
  case S =>
    intro xs W W' row h hg hr
    obtain ⟨⟨h1, h2⟩, v, h3⟩ := h
    refine ⟨⟨h1, h2.kr (Kr.grown hg (fun r e => (hr r e).2) h3.bx ⟨_, h3.box, rfl⟩)⟩, v, h3.own (B := wL.heap.size) (by omega) ((keep_of_grown hg).mono fun b e => hr b e.symm)⟩
  case Sp =>
    intro c xs W W' row h hg hr
    obtain ⟨⟨h1, h2⟩, h0, p, x, h3, h4, v, h5⟩ := h
    refine ⟨⟨h1, h2.kr (Kr.grown hg (fun r e => (hr r e).2) h5.bx ⟨_, h5.box, rfl⟩)⟩, h0, p, x, h3, h4, v, h5.own (B := wL.heap.size) (by omega) ((keep_of_grown hg).mono fun b e => hr b e.symm)⟩
  case assign =>
    rintro l pre ⟨⟨ik, ith, inn, ⟨op, path, tt, fd, fl, md, n2, m2, dat⟩⟩, dv⟩ W K ⟨v, hW⟩ ⟨a, cap, hdv⟩ hK
    simp only at hdv
    subst hdv
    have E := Lib.hid hW
    have HK := Lib.hid hK
    clear hK hW
    simp only [itemA, itemC, callC]
    gi_wp2
    have kA := Keep.alloc W (.cells #[.int .i64 ik, .int .i64 ith, .int .i64 inn, .int .i64 op, .string path, .string tt, .int .i64 fd, .int .i64 fl, .int .i64 md, .int .i64 n2, .int .i64 m2, .slice a dat.length cap] 39) (fun _ => False)
    exact HK.out _ _ (keepsFrom_of kA (fun _ q => q.elim)) (Kr.of kA E.out.bx) ⟨v, E.out.aside kA⟩ ⟨a, cap, rfl⟩ ⟨W.heap.size, rfl, rfl, heap_alloc_eq _ _⟩
  case body =>
    rintro l pre ⟨⟨ik, ith, inn, ⟨op, path, tt, fd, fl, md, n2, m2, dat⟩⟩, dv⟩ ⟨tmps, defers⟩ W ⟨v, hW⟩ ⟨a, cap, hdv⟩ ⟨ib, ha1, ha2, hib⟩
    simp only at ha1 ha2 hdv
    subst ha1 ha2 hdv
    have hpx : pairC (⟨ik, ith, inn, ⟨op, path, tt, fd, fl, md, n2, m2, dat⟩⟩, .slice a dat.length cap) = #[.int .i64 ik, .int .i64 ith, .int .i64 inn, .int .i64 op, .string path, .string tt, .int .i64 fd, .int .i64 fl, .int .i64 md, .int .i64 n2, .int .i64 m2, .slice a dat.length cap].toList := rfl
    obtain ⟨x, hx⟩ : ∃ x : ItemD, x = (⟨ik, ith, inn, ⟨op, path, tt, fd, fl, md, n2, m2, dat⟩⟩, .slice a dat.length cap) := ⟨_, rfl⟩
    rw [← hx] at hpx
    simp only [itemA, itemC, callC] at hib ⊢
    rw [← hx]
    have HPX := Lib.hid hpx
    clear hx hpx
    have x0 := cell_blk hib 0
    have x1 := cell_blk hib 1
    have x2 := cell_blk hib 2
    have x3 := cell_blk hib 3
    have x4 := cell_blk hib 4
    have x5 := cell_blk hib 5
    have x6 := cell_blk hib 6
    have x7 := cell_blk hib 7
    have x8 := cell_blk hib 8
    have x9 := cell_blk hib 9
    have x10 := cell_blk hib 10
    have x11 := cell_blk hib 11
    simp only [List.getElem?_toArray, List.getElem?_cons_zero, List.getElem?_cons_succ] at x0 x1 x2 x3 x4 x5 x6 x7 x8 x9 x10 x11
    obtain ⟨sa, cp, rfl, hcp⟩ := rows_val2 hW.row
    have c0 := cell_blk hW.box 0
    have f0 := free_blk hW.box 0
    simp only [List.getElem?_toArray, List.getElem?_cons_zero] at c0
    have hpl := hW.le
    have D := Lib.hid hW
    clear hW hib
    by_cases hk : pre.length = 1024
    · have hk' : (pre.length : Int) = 1024 := by omega
      gi_wp2
      exact ⟨KeepsFrom.refl _ _, Kr.refl _ _, rfl, pre, ⟨x.1, x.2, rfl⟩, hk, _, D.out⟩
    · have hk' : ¬ (pre.length : Int) = 1024 := by omega
      obtain ⟨ti, ti1, ti2, ti3, ti4⟩ := item_info
      have HI := Lib.hid (And.intro ti1 (And.intro ti2 (And.intro ti3 ti4)))
      clear ti1 ti2 ti3 ti4
      have hby : (pre.length + 1) * ti.bytes ≤ 1099511627776 * 64 := by
        have := HI.out.2.2.2
        have h1 : (pre.length + 1) * ti.bytes ≤ 1025 * 128 := Nat.mul_le_mul (by omega) this
        omega
      have HBY := Lib.hid hby
      clear hby
      gi_wp2_with (
        gi_at_builtin
        refine wpListIn_plain rfl (fun K hK => wp_round (fun c h => by cases h) (wp_append_rowB _ _ _ rfl Try.underlying23 HI.out.1 HI.out.2.1 HI.out.2.2.1 rfl (by decide) rfl (rows_keep D.out.row (Keep.alloc W (.cells #[.int .i64 ik, .int .i64 ith, .int .i64 inn, .int .i64 op, .string path, .string tt, .int .i64 fd, .int .i64 fl, .int .i64 md, .int .i64 n2, .int .i64 m2, .slice a dat.length cap] 39) (fun _ => False)) (fun _ _ z => z)) (pairC x) rfl rfl (.inr ⟨_, rfl, by rw [HPX.out]; exact cells_new W _ _⟩) (by rw [HPX.out]; intro u hu; simp at hu; rcases hu with rfl | rfl | rfl | rfl | rfl | rfl | rfl | rfl | rfl | rfl | rfl | rfl <;> rfl) (by omega) HBY.out (fun sa' cap' w' r1 r2 r3 => hK _ _ ?_)))
        have d1 := r2.get ((Keep.alloc W (.cells #[.int .i64 ik, .int .i64 ith, .int .i64 inn, .int .i64 op, .string path, .string tt, .int .i64 fd, .int .i64 fl, .int .i64 md, .int .i64 n2, .int .i64 m2, .slice a dat.length cap] 39) (fun _ => False)).get D.out.box (fun q => q)) (fun q => by have := D.out.new _ q.symm; omega)
        have e1 : w'.cell? ⟨w.heap.size, 0, none⟩ = some (.slice sa pre.length cp) := by rw [cell_blk d1]; rfl
        have e2 := free_blk d1 0
        have N := Lib.hid (And.intro r1 (And.intro r2 r3))
        clear r1 r2 r3 d1)
      obtain ⟨p1, p2, p3⟩ := D.out.push x (by omega) (Keep.alloc W (.cells #[.int .i64 ik, .int .i64 ith, .int .i64 inn, .int .i64 op, .string path, .string tt, .int .i64 fd, .int .i64 fl, .int .i64 md, .int .i64 n2, .int .i64 m2, .slice a dat.length cap] 39) (fun _ => False)) N.out.1 N.out.2.1 N.out.2.2
      refine ⟨⟨p3.size, fun k o hB hk ho => p3.get hk (fun q => ?_)⟩, p2, _, p1⟩
      rcases q with q | q
      · omega
      · rcases D.out.row.2 with ⟨e, _⟩ | ⟨g, cap', cur, e, _, hb', _⟩
        · rw [e] at q; simp [Value.ownBlock] at q
        · rw [e] at q
          simp only [Value.ownBlock, Option.some.injEq] at q
          subst q
          exact not_cells hb' ⟨o, hk, ho⟩
  case' done =>
    rintro D zs W hD ⟨hxs, hgood⟩ ⟨v, hW⟩ hK
    have hdec : zs.map Prod.fst = decS 1024 b := by
      rw [decS_take, ← hxs, List.take_of_length_le (by rw [List.length_map]; exact hW.le)]
    clear hxs
  case' stop =>
    rintro D cd pre W hD ⟨hpre, hgood0⟩ ⟨rfl, zs, x, rfl, hlen, v, hW⟩ hK
    have hgood : GoodI w.heap.size wL.heap.size zs W := fun y hy => hgood0 y (List.mem_append_left _ hy)
    have hdec : zs.map Prod.fst = decS 1024 b := by
      rw [decS_take]
      obtain ⟨t, ht⟩ := hpre
      rw [← ht, List.map_append, List.append_assoc, List.take_append_of_le_length (by rw [List.length_map]; omega), List.take_of_length_le (by rw [List.length_map]; omega)]
    clear hpre hgood0 hlen
  all_goals
    obtain ⟨sa, cp, rfl, hcp⟩ := rows_val2 hW.row
    have hlen : (decS 1024 b).length = zs.length := by rw [← hdec, List.length_map]
    have hcap : cp ≤ maxLen := by
      rcases hW.row.2 with ⟨e, _⟩ | ⟨g, cap', cur, e, _, _, _, hcm', _⟩
      · simp only [Value.slice.injEq] at e; rw [e.2.2]; exact Nat.zero_le _
      · simp only [Value.slice.injEq] at e; rw [e.2.2]; exact hcm'
    have hnil : sa = none → zs.length = 0 ∧ cp = 0 := by
      intro e
      rcases hW.row.2 with ⟨e', h'⟩ | ⟨g, cap', cur, e', _⟩
      · simp only [Value.slice.injEq] at e'; exact ⟨h', e'.2.2⟩
      · simp only [Value.slice.injEq] at e'; rw [e'.1] at e; cases e
    have c0 := cell_blk hW.box 0
    simp only [List.getElem?_toArray, List.getElem?_cons_zero] at c0
    have hcl := clip_c W sa zs.length cp hcp hcap hnil
    have hbz := hW.sz
    have hin : ItemsIn W (.slice sa zs.length zs.length) (decS 1024 b) := by
      refine ⟨zs, hdec, fun y hy => ⟨(hgood y hy).1, .inl (hgood y hy).2.1⟩, sa, zs.length, by rw [hlen], by rw [hlen]; exact Nat.le_refl _, by omega, ?_⟩
      by_cases h0 : zs.length = 0
      · left; exact List.eq_nil_of_length_eq_zero (by rw [hlen]; exact h0)
      · right
        obtain ⟨g, rfl, _, _, hg⟩ := rows_some hW.row (by omega)
        exact ⟨g, 0, rfl, hg, fun i u hi => by rw [Nat.zero_add]; exact (rows_cell hW.row hi).1⟩
    have E := Lib.hid (And.intro hW (And.intro hin hK))
    generalize zs.length = k at *
    clear hW hin hK hgood hdec hlen hnil hcap hcp
    go_wp2_with (
      go_at_call 23
      refine hcl.mono ?_
      rintro e W2 ⟨rfl, rfl⟩)
    refine leaves_mark E.out.2.2 (fun w' kk => ⟨_, results_tmp rfl _ _ _, _, rfl, ?_, E.out.1.keep.trans kk (fun x q => .inr (by have q' : x = D := q; omega))⟩)
    exact E.out.2.1.mark E.out.2.2 kk

theorem sdec_c {w : World} {v : Value} {b : Bs} (hb : BSl w v b) :
    Calls Try.prog 13 #[v] w fun r w' => ∃ u, r = .returned u ∧ ItemsIn w' u (decS 1024 b) ∧ Keep w w' (fun _ => False) := sdec_r (.inl hb)

end Go.Proofs.Ytmokbgihpfnmbaa
