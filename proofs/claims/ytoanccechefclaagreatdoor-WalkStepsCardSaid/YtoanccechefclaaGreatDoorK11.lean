/-
  Parts of the walk's proof: RTb. (joined by pack.py)
-/
import Derived.Deep.QuietTactic
import Derived.BigQuiet
import Derived.Test.YtoanccechefclaaGreatDoorK10
set_option linter.unusedSectionVars false
set_option linter.unusedSimpArgs false
set_option linter.unusedVariables false
namespace Go.Proofs.YtoanccechefclaaGreatDoor
open Go Go.RowKit
set_option maxRecDepth 100000
section cells
variable {w : World} {tb : Nat} {s : RShape} {bl : Int} {T : TreeV} {n : Int} {x : NodeV}
structure RCells (w : World) (b : Nat) (n : Int) (x : NodeV) (u : Int) (v : Value) : Prop where
  node : w.cell? ⟨b, 0, none⟩ = some (.int .i64 n)
  kind : w.cell? ⟨b, 1, none⟩ = some (.int .i64 x.kind)
  mode : w.cell? ⟨b, 2, none⟩ = some (.int .i64 x.mode)
  uid : w.cell? ⟨b, 3, none⟩ = some (.int .i64 x.uid)
  gid : w.cell? ⟨b, 4, none⟩ = some (.int .i64 x.gid)
  l0 : w.cell? ⟨b, 5, none⟩ = some (.int .i64 0)
  s0 : w.cell? ⟨b, 6, none⟩ = some (.int .i64 0)
  text : w.cell? ⟨b, 7, none⟩ = some (.string x.text)
  ents : w.cell? ⟨b, 8, none⟩ = some v
  up : w.cell? ⟨b, 9, none⟩ = some (.int .i64 u)
  links : w.cell? ⟨b, 10, none⟩ = some (.int .i64 x.links)
  holds : w.cell? ⟨b, 11, none⟩ = some (.int .i64 x.holds)
  file : w.cell? ⟨b, 12, none⟩ = some (.int .i64 x.file)
theorem rCells {b : Nat} {u : Int} {v : Value} {t : TypeId} (h : w.heap[b]? = some (.cells (rnodeC n x u v) t (0, 0))) : RCells w b n x u v := by
  constructor <;> (rw [cell_blk h]; rfl)
theorem RTreeIn.cells (h : RTreeIn w tb s bl T) (hx : aget T.all n = some x) : RCells w (s.na n) n x (s.up n) (s.ev n) := rCells (h.node_at hx)
theorem RTreeIn.nodeFree (h : RTreeIn w tb s bl T) (hx : aget T.all n = some x) (i : Nat) : w.frozen? ⟨s.na n, i, none⟩ = false := free_blk (h.node_at hx) i
theorem RTreeIn.hmost (h : RTreeIn w tb s bl T) : w.cell? ⟨tb, 0, none⟩ = some (.int .i64 T.most) := by rw [cell_blk h.head]; rfl
theorem RTreeIn.hpool (h : RTreeIn w tb s bl T) : w.cell? ⟨tb, 1, none⟩ = some (.pointer (some ⟨s.pb, 0, none⟩)) := by rw [cell_blk h.head]; rfl
theorem RTreeIn.hrows (h : RTreeIn w tb s bl T) : w.cell? ⟨tb, 2, none⟩ = some s.rv := by rw [cell_blk h.head]; rfl
end cells
def TreeV.rng (T : TreeV) : Prop := (0 ≤ T.made ∧ T.made ≤ 1000000) ∧ ∀ x ∈ T.all, 1 ≤ x.1 ∧ x.1 ≤ T.made
theorem TreeV.rng_of {T : TreeV} {z k : Int} (h : T.okBut z) (hs : T.small k) (hk : k ≤ 1000000) : T.rng := ⟨⟨hs.made.1, by have := hs.made.2; omega⟩, h.range⟩
section reads
variable {w : World} {tb : Nat} {s : RShape} {bl : Int} {T : TreeV} (h : RTreeIn w tb s bl T) (hr : T.rng)
include h hr
theorem rtat_c (n : Int) : Calls Tryz.prog 84 #[.pointer (some ⟨tb, 0, none⟩), .int .i64 n] w fun e w' => e = .returned (rslot T s.na n) ∧ w = w' := by
  obtain ⟨sa, cap, hrv, hc⟩ := rows_val2 h.rows
  have c2 := h.hrows
  have h2 := h.rows
  rw [hrv] at c2 h2
  obtain ⟨m, hm⟩ : ∃ m : Nat, T.made.toNat = m := ⟨_, rfl⟩
  have hmi : T.made = m := by have := hr.1; omega
  have hm6 : m ≤ 1000000 := by have := hr.1; omega
  by_cases hf : 1 ≤ n ∧ n ≤ m
  · obtain ⟨i, rfl⟩ : ∃ i : Nat, n = (i : Int) + 1 := ⟨(n - 1).toNat, by omega⟩
    rw [hm] at h2 c2
    obtain ⟨g, rfl, -, -, -⟩ := rows_some h2 (by omega)
    have c1 : w.cell? ⟨g, i, none⟩ = some (rslot T s.na ((i : Int) + 1)) := (rows_cell h2 (rslots_get T s.na (i := i) (by omega))).1
    generalize rslot T s.na ((i : Int) + 1) = sv at *
    have g1 : ¬ (i : Int) + 1 < 1 := by omega
    have g2 : ¬ (m : Int) < (i : Int) + 1 := by omega
    have g3 : i < m := by omega
    clear h h2 hrv hc hr hm hmi hf
    go_enter Tryz.func84, Tryz.ntmps84
    go_wp2
    go_ret
    exact ⟨rfl, rfl⟩
  · have hs : rslot T s.na n = .pointer none := by
      cases hg : aget T.all n with
      | none => exact rslot_none hg
      | some F =>
        have := hr.2 _ (aget_memN hg)
        simp only at this
        omega
    rw [hs]
    rw [hm] at c2
    by_cases g1 : n < 1
    · clear h h2 hrv hc hr hm hmi hf hs
      go_enter Tryz.func84, Tryz.ntmps84
      go_wp2
      go_ret
      exact ⟨rfl, rfl⟩
    · have g2 : (m : Int) < n := by omega
      clear h h2 hrv hc hr hm hmi hf hs
      go_enter Tryz.func84, Tryz.ntmps84
      go_wp2
      go_ret
      exact ⟨rfl, rfl⟩
theorem rtat_s {n : Int} {x : NodeV} (hx : aget T.all n = some x) : Calls Tryz.prog 84 #[.pointer (some ⟨tb, 0, none⟩), .int .i64 n] w fun e w' => e = .returned (.pointer (some ⟨s.na n, 0, none⟩)) ∧ w = w' := by
  have := rtat_c h hr n
  rw [rslot_some hx] at this
  exact this
theorem rtat_n {n : Int} (hx : aget T.all n = none) : Calls Tryz.prog 84 #[.pointer (some ⟨tb, 0, none⟩), .int .i64 n] w fun e w' => e = .returned (.pointer none) ∧ w = w' := by
  have := rtat_c h hr n
  rw [rslot_none hx] at this
  exact this
theorem rtdir_c (n : Int) : Calls Tryz.prog 75 #[.pointer (some ⟨tb, 0, none⟩), .int .i64 n] w fun e w' => e = .returned (if T.isDir n then .pointer (some ⟨s.na n, 0, none⟩) else .pointer none) ∧ w = w' := by
  unfold TreeV.isDir TreeV.dir
  cases hx : aget T.all n with
  | none =>
    have ha := rtat_n h hr hx
    simp only [Option.filter_none, Option.isSome_none, Bool.false_eq_true, if_false]
    clear h hr hx
    go_enter Tryz.func75, Tryz.ntmps75
    go_wp2_with (
      go_at_call 84
      refine ha.mono ?_
      rintro e w1 ⟨rfl, rfl⟩
      clear ha)
    go_ret
    exact ⟨rfl, rfl⟩
  | some x =>
    have ha := rtat_s h hr hx
    have c1 := (h.cells hx).kind
    generalize s.na n = nb at *
    by_cases hk : x.kind = 1
    · have g1 : (x.kind != 1) = false := by simpa using hk
      simp only [Option.filter_some, hk, decide_true, if_true, Option.isSome_some]
      rw [hk] at c1
      clear h hr hx hk g1
      go_enter Tryz.func75, Tryz.ntmps75
      go_wp2_with (
        go_at_call 84
        refine ha.mono ?_
        rintro e w1 ⟨rfl, rfl⟩
        clear ha)
      go_ret
      exact ⟨rfl, rfl⟩
    · have g1 : (x.kind != 1) = true := by simpa using hk
      simp only [Option.filter_some, hk, decide_false, Bool.false_eq_true, if_false, Option.isSome_none]
      clear h hr hx hk
      go_enter Tryz.func75, Tryz.ntmps75
      go_wp2_with (
        go_at_call 84
        refine ha.mono ?_
        rintro e w1 ⟨rfl, rfl⟩
        clear ha)
      go_ret
      exact ⟨rfl, rfl⟩
theorem rtdir_s {n : Int} {x : NodeV} (hx : T.dir n = some x) : Calls Tryz.prog 75 #[.pointer (some ⟨tb, 0, none⟩), .int .i64 n] w fun e w' => e = .returned (.pointer (some ⟨s.na n, 0, none⟩)) ∧ w = w' := by
  have := rtdir_c h hr n
  rw [isDir_eq hx] at this
  exact this
theorem rtdir_n {n : Int} (hx : T.dir n = none) : Calls Tryz.prog 75 #[.pointer (some ⟨tb, 0, none⟩), .int .i64 n] w fun e w' => e = .returned (.pointer none) ∧ w = w' := by
  have := rtdir_c h hr n
  rw [isDir_not hx] at this
  exact this
theorem rgone_c {n : Int} {x : NodeV} (hx : aget T.all n = some x) (hl : 0 ≤ x.links) : Calls Tryz.prog 78 #[.pointer (some ⟨tb, 0, none⟩), .int .i64 n] w fun e w' => e = .returned (.bool (!(TreeV.named n x))) ∧ w = w' := by
  have ha := rtat_s h hr hx
  have c1 := (h.cells hx).links
  generalize s.na n = nb at *
  unfold TreeV.named
  generalize x.links = lk at *
  by_cases h1 : n = 1
  · subst h1
    simp only [decide_true, Bool.true_or, Bool.not_true]
    clear h hr hx
    go_enter Tryz.func78, Tryz.ntmps78
    go_wp2
    go_ret
    exact ⟨rfl, rfl⟩
  · have g1 : (n != 1) = true := by simpa using h1
    have hz : (!(decide (n = 1) || decide (0 < lk))) = (lk == 0) := by
      simp only [h1, decide_false, Bool.false_or]
      by_cases q : lk = 0
      · simp [q]
      · have : 0 < lk := by omega
        simp [q, this]
    rw [hz]
    clear h hr hx h1 hz hl
    go_enter Tryz.func78, Tryz.ntmps78
    go_wp2_with (
      go_at_call 84
      refine ha.mono ?_
      rintro e w1 ⟨rfl, rfl⟩
      clear ha)
    go_ret
    exact ⟨rfl, rfl⟩
omit hr
theorem rfind_c {n : Int} {x : NodeV} (hx : aget T.all n = some x) (hl : x.names.length ≤ 1000000) (k : ByteArray) :
    Calls Tryz.prog 77 #[.pointer (some ⟨s.na n, 0, none⟩), .string k] w fun e w' => e = .returned (.int .i64 (idxE (entsOf x.names) k)) ∧ w = w' := by
  obtain ⟨ea, ec, hev, hc⟩ := rows_val2 (h.ents_at hx)
  have c8 := (h.cells hx).ents
  have he := h.ents_at hx
  rw [hev] at c8 he
  have hlen := ents_len x.names
  generalize entsOf x.names = L at *
  generalize x.names.length = ln at *
  generalize s.na n = nb at *
  have HE := Lib.hid (And.intro he hlen)
  clear h hx hev he hlen
  obtain ⟨res, hres⟩ : ∃ res, idxE L k = res := ⟨_, rfl⟩
  rw [hres]
  have HR := Lib.hid hres
  clear hres
  go_enter Tryz.func77, Tryz.ntmps77
  go_wp2
  go_loopg [5] ln (fun g s5 wr => ∃ i : Nat, s5 = .int .i64 i ∧ i + g = ln ∧ (∀ e ∈ L.take i, e.1 ≠ k) ∧ w = wr)
  case atStart => exact ⟨0, rfl, by omega, fun e he => by simp at he, rfl⟩
  case round =>
    obtain ⟨i, rfl, hi, hno, rfl⟩ := hrel
    have HN := Lib.hid hno
    clear hno
    by_cases hlt : i < ln
    · have g1 : (i : Int) < (ln : Int) := by omega
      have g2 : (0 : Int) ≤ (i : Int) := by omega
      obtain ⟨e, he⟩ : ∃ e, L[i]? = some e := ⟨_, List.getElem?_eq_getElem (by have := HE.out.2; omega)⟩
      obtain ⟨g, rfl, _, _, _⟩ := rows_some HE.out.1 (by omega)
      have c1 : w.cell? ⟨g, i * 2, none⟩ = some (.string e.1) := (rows_cell HE.out.1 (by rw [← Nat.add_zero (i * 2), flat_get entC 2 entC_len he (by omega)]; rfl)).1
      by_cases hk : e.1 = k
      · have g3 : (e.1.toList == k.toList) = true := by rw [hk]; simp
        have K := Lib.hid (idxE_at HN.out he hk)
        clear he hk
        go_wp2
        go_ret
        exact ⟨by rw [← HR.out, K.out]; rfl, rfl⟩
      · have g3 : (e.1.toList == k.toList) = false := by
          simp only [beq_eq_false_iff_ne, ne_eq]
          exact fun q => hk (ByteArray.ext (by rw [ByteArray.toList_eq, ByteArray.toList_eq] at q; exact Array.toList_inj.1 q))
        have K := Lib.hid (take_none HN.out he hk)
        clear he hk
        go_wp2
        go_roundg (ln - (i + 1))
        case measure => omega
        case rel => exact ⟨i + 1, by go_num, by omega, K.out, rfl⟩
    · have g1 : ¬ (i : Int) < (ln : Int) := by omega
      have K := Lib.hid (idxE_end (l := L) (s := k) (fun e he => HN.out e (by rw [List.take_of_length_le (by have := HE.out.2; omega)]; exact he)))
      go_wp2
      go_ret
      exact ⟨by rw [← HR.out, K.out]; rfl, rfl⟩
end reads
def dirsE (T : TreeV) (L : List (ByteArray × Int)) (i : Nat) : Nat := ((L.take i).filter fun e => T.isDir e.2).length
theorem dirsE_succ {T : TreeV} {L : List (ByteArray × Int)} {i : Nat} {e : ByteArray × Int} (he : L[i]? = some e) : dirsE T L (i + 1) = dirsE T L i + if T.isDir e.2 then 1 else 0 := by
  unfold dirsE
  rw [List.take_add_one, he, List.filter_append, List.length_append]
  congr 1
  simp only [Option.toList_some, List.filter_cons, List.filter_nil]
  split <;> rfl
theorem dirsE_le (T : TreeV) (L : List (ByteArray × Int)) (i : Nat) : dirsE T L i ≤ i := by
  have : dirsE T L i ≤ (L.take i).length := List.length_filter_le ..
  rw [List.length_take] at this
  omega
def TreeV.linksOf (T : TreeV) (n : Int) (x : NodeV) : Int := if x.kind = 1 then T.dirs n x else x.links
set_option maxHeartbeats 2000000 in
theorem rlinks_c {w : World} {tb : Nat} {s : RShape} {bl : Int} {T : TreeV} (h : RTreeIn w tb s bl T) (hr : T.rng) (hok : T.ok) {n : Int} {x : NodeV} (hx : aget T.all n = some x) (hl : x.names.length ≤ 1000000) :
    Calls Tryz.prog 79 #[.pointer (some ⟨tb, 0, none⟩), .int .i64 n] w fun e w' => e = .returned (.int .i64 (T.linksOf n x)) ∧ w = w' := by
  have ha := rtat_s h hr hx
  have c1 := (h.cells hx).kind
  have c10 := (h.cells hx).links
  have hm := aget_memN hx
  have hlk := hok.links _ hm
  simp only at hlk
  unfold TreeV.linksOf
  by_cases hk : x.kind = 1
  · rw [if_pos hk]
    rw [hk] at c1
    unfold TreeV.dirs
    have h0 : 0 ≤ x.links := by omega
    have hnm : TreeV.named n x = (decide (n = 1) || decide (0 < x.links)) := rfl
    by_cases hnn : TreeV.named n x = true
    · rw [if_pos hnn]
      obtain ⟨ea, ec, hev, hc⟩ := rows_val2 (h.ents_at hx)
      have c8 := (h.cells hx).ents
      have he := h.ents_at hx
      rw [hev] at c8 he
      have hlen := ents_len x.names
      have hkids : ∀ e ∈ entsOf x.names, ∃ y, aget T.all e.2 = some y := fun e q => by
        have q2 := (ents_perm (hok.once _ hm)).mem_iff.1 q
        have := (hok.kids _ hm _ q2).2
        cases hq : aget T.all e.2 with
        | some y => exact ⟨y, rfl⟩
        | none => exact absurd this (aget_out hq)
      have hfin : dirsE T (entsOf x.names) x.names.length = (x.names.filter fun e => T.isDir e.2).length := by
        unfold dirsE
        rw [List.take_of_length_le (by rw [hlen]; exact Nat.le_refl _)]
        exact ((ents_perm (hok.once _ hm)).filter _).length_eq
      rw [← hfin]
      have HH := Lib.hid (And.intro h hr)
      generalize entsOf x.names = L at *
      generalize x.names.length = ln at *
      have HE := Lib.hid (And.intro he (And.intro hlen hkids))
      generalize x.links = lk at *
      have hz : n = 1 ∨ (n != 1) = true ∧ (lk == 0) = false := by
        by_cases q : n = 1
        · exact .inl q
        · right
          refine ⟨by simpa using q, ?_⟩
          rw [hnm] at hnn
          simp only [q, decide_false, Bool.false_or, decide_eq_true_eq] at hnn
          have : ¬ lk = 0 := by omega
          simpa using this
      generalize hnb : s.na n = nb at *
      clear hx hm hlk hk h0 hnm hnn hev he hlen hkids hfin h hr hnb
      rcases hz with rfl | ⟨g1, g2⟩
      all_goals
        go_enter Tryz.func79, Tryz.ntmps79
        go_wp2_with (
          go_at_call 84
          refine ha.mono ?_
          rintro e w1 ⟨rfl, rfl⟩
          clear ha)
        go_loopg [6, 7] ln (fun g s6 s7 wr => ∃ i : Nat, s7 = .int .i64 i ∧ s6 = .int .i64 (2 + (dirsE T L i : Int)) ∧ i + g = ln ∧ w = wr)
        case atStart => exact ⟨0, rfl, by simp [dirsE], by omega, rfl⟩
        case round =>
          obtain ⟨i, rfl, rfl, hi, rfl⟩ := hrel
          by_cases hlt : i < ln
          · have g3 : (i : Int) < (ln : Int) := by omega
            have g4 : (0 : Int) ≤ (i : Int) := by omega
            obtain ⟨e, he⟩ : ∃ e, L[i]? = some e := ⟨_, List.getElem?_eq_getElem (by have := HE.out.2.1; omega)⟩
            obtain ⟨g, rfl, _, _, _⟩ := rows_some HE.out.1 (by omega)
            have d1 : w.cell? ⟨g, i * 2 + 1, none⟩ = some (.int .i64 e.2) := (rows_cell HE.out.1 (by rw [flat_get entC 2 entC_len he (by omega)]; rfl)).1
            obtain ⟨y, hy⟩ := HE.out.2.2 e (List.mem_of_getElem? he)
            have hay := rtat_s HH.out.1 HH.out.2 hy
            have dk := (HH.out.1.cells hy).kind
            have hsu := Lib.hid (dirsE_succ (T := T) he)
            have hle := dirsE_le T L i
            have hdy : T.isDir e.2 = decide (y.kind = 1) := by
              unfold TreeV.isDir TreeV.dir
              rw [hy]
              by_cases q : y.kind = 1 <;> simp [q]
            generalize s.na e.2 = yb at *
            generalize dirsE T L i = dd at *
            by_cases hyk : y.kind = 1
            · rw [hyk] at dk
              have HD := Lib.hid (show T.isDir e.2 = true by rw [hdy]; simpa using hyk)
              clear he hy hdy hyk
              go_wp2_with (
                go_at_call 84
                refine hay.mono ?_
                rintro e w1 ⟨rfl, rfl⟩
                clear hay)
              go_roundg (ln - (i + 1))
              case measure => omega
              case rel => exact ⟨i + 1, by go_num, by rw [hsu.out, if_pos HD.out]; go_num, by omega, rfl⟩
            · have gk : (y.kind == 1) = false := by simpa using hyk
              have HD := Lib.hid (show ¬ T.isDir e.2 = true by rw [hdy]; simpa using hyk)
              clear he hy hdy hyk
              go_wp2_with (
                go_at_call 84
                refine hay.mono ?_
                rintro e w1 ⟨rfl, rfl⟩
                clear hay)
              go_roundg (ln - (i + 1))
              case measure => omega
              case rel => exact ⟨i + 1, by go_num, by rw [hsu.out, if_neg HD.out]; rfl, by omega, rfl⟩
          · have g3 : ¬ (i : Int) < (ln : Int) := by omega
            obtain rfl : i = ln := by omega
            go_wp2
            go_ret
            exact ⟨rfl, rfl⟩
    · rw [if_neg hnn]
      rw [hnm] at hnn
      simp only [Bool.or_eq_true, decide_eq_true_eq, not_or] at hnn
      obtain ⟨q1, q2⟩ := hnn
      have g1 : (n != 1) = true := by simpa using q1
      have q3 : x.links = 0 := by omega
      rw [q3] at c10
      generalize s.na n = nb at *
      clear h hr hok hx hm hlk hk h0 hnm q1 q2 q3
      go_enter Tryz.func79, Tryz.ntmps79
      go_wp2_with (
        go_at_call 84
        refine ha.mono ?_
        rintro e w1 ⟨rfl, rfl⟩
        clear ha)
      go_ret
      exact ⟨rfl, rfl⟩
  · rw [if_neg hk]
    have g1 : (x.kind != 1) = true := by simpa using hk
    generalize s.na n = nb at *
    clear h hr hok hx hm hlk hk
    go_enter Tryz.func79, Tryz.ntmps79
    go_wp2_with (
      go_at_call 84
      refine ha.mono ?_
      rintro e w1 ⟨rfl, rfl⟩
      clear ha)
    go_ret
    exact ⟨rfl, rfl⟩
end Go.Proofs.YtoanccechefclaaGreatDoor
namespace Go.Proofs.YtoanccechefclaaGreatDoor
open Go Go.RowKit
set_option maxRecDepth 100000
def RUps (s : RShape) (T : TreeV) : Prop := ∀ x ∈ T.all, x.2.kind = 1 → s.up x.1 = T.upOf x.1
section
variable {w : World} {tb : Nat} {s : RShape} {bl : Int} {T : TreeV} (h : RTreeIn w tb s bl T) (hr : T.rng)
include h hr
set_option maxHeartbeats 1000000 in
theorem rtfind_c (ho : ∀ x ∈ T.all, (x.2.names.map Prod.fst).Nodup) (hsm : ∀ x ∈ T.all, x.2.names.length ≤ 1000000) (d : Int) (k : ByteArray) :
    Calls Tryz.prog 85 #[.pointer (some ⟨tb, 0, none⟩), .int .i64 d, .string k] w fun e w' => e = .returned (.tuple #[.int .i64 (T.find d k).1, .bool (T.find d k).2]) ∧ Keep w w' (fun _ => False) := by
  unfold TreeV.find
  cases hx : T.dir d with
  | none =>
    have hd := rtdir_n h hr hx
    clear h hr hx ho hsm
    go_enter Tryz.func85, Tryz.ntmps85
    go_wp2_with (
      go_at_call 75
      refine hd.mono ?_
      rintro e w1 ⟨rfl, rfl⟩
      clear hd)
    go_ret2
    exact ⟨rfl, Keep.refl _ _⟩
  | some x =>
    have hd := rtdir_s h hr hx
    have hg := (TreeV.dir_some hx).1
    have hm := aget_memN hg
    have hf := rfind_c h hg (hsm _ hm) k
    dsimp only
    cases hk : aget x.names k with
    | none =>
      rw [idxE_none (ho _ hm) hk] at hf
      generalize s.na d = nb at *
      clear h hr hx ho hsm hg hm hk
      go_enter Tryz.func85, Tryz.ntmps85
      go_wp2_with (first
        | (go_at_call 75
           refine hd.mono ?_
           rintro e w1 ⟨rfl, rfl⟩
           clear hd)
        | (go_at_call 77
           refine hf.mono ?_
           rintro e w1 ⟨rfl, rfl⟩
           clear hf))
      go_ret2
      exact ⟨rfl, Keep.refl _ _⟩
    | some n =>
      obtain ⟨i, hi, hie⟩ := idxE_some (ho _ hm) hk
      rw [hi] at hf
      have hfq : ∀ w', Keep w w' (fun _ => False) → Calls Tryz.prog 77 #[.pointer (some ⟨s.na d, 0, none⟩), .string k] w' fun e w'' => e = .returned (.int .i64 i) ∧ w'' = w' := fun w' K => by
        have := rfind_c (h.aside K) hg (hsm _ hm) k
        rw [hi] at this
        exact this.mono fun e w'' q => ⟨q.1, q.2.symm⟩
      obtain ⟨ea, ec, hev, hc⟩ := rows_val2 (h.ents_at hg)
      have c8 := (h.cells hg).ents
      have he := h.ents_at hg
      rw [hev] at c8 he
      have hlt : i < x.names.length := by rw [← ents_len x.names]; exact (List.getElem?_eq_some_iff.1 hie).1
      obtain ⟨g, rfl, -, -, -⟩ := rows_some he (by omega)
      have d1 : w.cell? ⟨g, i * 2 + 1, none⟩ = some (.int .i64 n) := (rows_cell he (by rw [flat_get entC 2 entC_len hie (by omega)]; rfl)).1
      have hl6 := hsm _ hm
      simp only at hl6
      generalize x.names.length = ln at *
      generalize s.na d = nb at *
      have g1 : ¬ (i : Int) < 0 := by omega
      have g2 : (0 : Int) ≤ (i : Int) := by omega
      have g3 : (i : Int) < (ln : Int) := by omega
      clear h hr hx ho hsm hg hm hk hi hie hev he
      go_enter Tryz.func85, Tryz.ntmps85
      go_upto_region 4 with (first
        | (go_at_call 75
           refine hd.mono ?_
           rintro e w1 ⟨rfl, rfl⟩
           clear hd)
        | (go_at_call 77
           refine hf.mono ?_
           rintro e w1 ⟨rfl, rfl⟩
           clear hf))
      go_quiet ((go_at_call 77; refine Calls.quiet_of_same (hfq _ ?_); first | exact Keep.refl _ _ | exact Keep.drew _ _ | exact drewN_keep _ _ _))
      go_wp2
      go_ret2
      exact ⟨rfl, by first | exact Keep.refl _ _ | exact Keep.drew _ _ | exact drewN_keep _ _ _⟩
theorem int_infoR : ∃ i, Tryz.prog.info? 3 = some i ∧ i.zero = some (.int .i64 0) ∧ i.size = 1 ∧ i.bytes ≤ 64 := by
  have h : (Tryz.prog.info? 3).map (fun i => (i.zero, i.size, i.bytes)) = some (some (.int .i64 0), 1, 8) := by kernel_rfl
  cases hh : Tryz.prog.info? 3 with
  | none => rw [hh] at h; simp at h
  | some i =>
    rw [hh] at h
    simp only [Option.map_some, Option.some.injEq, Prod.mk.injEq] at h
    exact ⟨i, rfl, h.1, h.2.1, by omega⟩
end
def liveUpto (T : TreeV) (k : Nat) : List Int := ((List.range k).filter fun (i : Nat) => (aget T.all ((i : Int) + 1)).isSome).map fun (i : Nat) => ((i : Int) + 1)
theorem liveUpto_succ (T : TreeV) (k : Nat) : liveUpto T (k + 1) = liveUpto T k ++ if (aget T.all ((k : Int) + 1)).isSome then [((k : Int) + 1)] else [] := by
  unfold liveUpto
  rw [List.range_succ, List.filter_append, List.map_append]
  congr 1
  simp only [List.filter_cons, List.filter_nil]
  split <;> rfl
theorem liveUpto_len (T : TreeV) (k : Nat) : (liveUpto T k).length ≤ k := by
  unfold liveUpto
  rw [List.length_map]
  have := List.length_filter_le (fun (i : Nat) => (aget T.all ((i : Int) + 1)).isSome) (List.range k)
  rwa [List.length_range] at this
theorem liveUpto_all {T : TreeV} (hok : T.ok) {k : Nat} (hk : T.made = k) : liveUpto T k = T.live := by
  unfold TreeV.live liveUpto
  have hp : (((List.range k).filter fun (i : Nat) => (aget T.all ((i : Int) + 1)).isSome).map fun (i : Nat) => ((i : Int) + 1)).Pairwise (· < ·) := by
    rw [List.pairwise_map]
    exact ((List.pairwise_lt_range (n := k)).filter _).imp fun q => by omega
  refine sortedI_unique (hp.imp fun q => by omega) (hok.sorted.imp fun q => by omega) ?_
  refine (List.perm_ext_iff_of_nodup (hp.imp fun q => by omega) hok.nodup).2 fun n => ?_
  simp only [List.mem_map, List.mem_filter, List.mem_range]
  constructor
  · rintro ⟨i, ⟨h1, h2⟩, rfl⟩
    cases hq : aget T.all ((i : Int) + 1) with
    | none => rw [hq] at h2; cases h2
    | some x => exact ⟨_, aget_memN hq, rfl⟩
  · rintro ⟨x, hx, rfl⟩
    have hr := hok.range x hx
    have hg := aget_ofN hok.nodup hx
    refine ⟨(x.1 - 1).toNat, ⟨by omega, ?_⟩, by omega⟩
    rw [show (((x.1 - 1).toNat : Nat) : Int) + 1 = x.1 by omega, hg]; rfl
section
variable {w : World} {tb : Nat} {s : RShape} {bl : Int} {T : TreeV} (h : RTreeIn w tb s bl T) (hr : T.rng) (hok : T.ok)
include h hr hok
set_option maxHeartbeats 2000000 in
theorem rtlive_c : Calls Tryz.prog 114 #[.pointer (some ⟨tb, 0, none⟩)] w fun e w' => ∃ v, e = .returned v ∧ Made w w' 3 v (T.live.map (Value.int .i64)) := by
  obtain ⟨sa, cap, hrv, hc⟩ := rows_val2 h.rows
  have hhd := h.head
  have h2 := h.rows
  rw [hrv] at hhd h2
  obtain ⟨m, hm⟩ : ∃ m : Nat, T.made.toNat = m := ⟨_, rfl⟩
  have hmi : T.made = m := by have := hr.1; omega
  have hm6 : m ≤ 1000000 := by have := hr.1; omega
  rw [hm] at hhd h2
  rw [← liveUpto_all hok hmi]
  have HE := Lib.hid (And.intro h2 (And.intro hhd hmi))
  obtain ⟨ti, ti1, ti2, ti3, ti4⟩ := int_infoR h hr
  have HI := Lib.hid (And.intro ti1 (And.intro ti2 (And.intro ti3 ti4)))
  have hz1 : (Value.int .i64 0).cells.size = 1 := rfl
  clear h hr hok hrv hc hhd h2 hm hmi ti1 ti2 ti3 ti4
  go_enter Tryz.func114, Tryz.ntmps114
  go_wp2
  go_loopg [3, 4] m (fun g s3 s4 wr => ∃ i : Nat, s4 = .int .i64 i ∧ i + g = m ∧ Made w wr 3 s3 ((liveUpto T i).map (Value.int .i64)))
  case atStart => exact ⟨0, rfl, by omega, by simpa [liveUpto] using Made.nil w 3⟩
  case round =>
    obtain ⟨i, rfl, hi, hM⟩ := hrel
    have c2 : wr.cell? ⟨tb, 2, none⟩ = some (.slice sa m cap) := by rw [cell_blk (hM.keep.get HE.out.2.1 (fun q => q))]; rfl
    have heR := rows_keep HE.out.1 hM.keep (fun _ _ q => q)
    obtain ⟨q, hq⟩ : ∃ q, ((liveUpto T i).map (Value.int .i64)).length = q := ⟨_, rfl⟩
    have hqk : q ≤ 1000000 := by have := liveUpto_len T i; rw [List.length_map] at hq; omega
    have M := Lib.hid (And.intro hM hq)
    obtain ⟨a3, cap3, rfl⟩ := hM.valn hq
    by_cases hlt : i < m
    · have g1 : (i : Int) < (m : Int) := by omega
      have g2 : (0 : Int) ≤ (i : Int) := by omega
      obtain ⟨g, rfl, -, -, -⟩ := rows_some heR (by omega)
      have d1 : wr.cell? ⟨g, i, none⟩ = some (rslot T s.na ((i : Int) + 1)) := (rows_cell heR (rslots_get T s.na (i := i) (by have := HE.out.2.2; omega))).1
      have HT := Lib.hid (liveUpto_succ T i)
      unfold rslot at d1
      cases hx : aget T.all ((i : Int) + 1) with
      | none =>
        rw [hx] at d1
        simp only [Option.isSome_none, Bool.false_eq_true, if_false] at d1
        have HX := Lib.hid hx
        clear hM hq heR hx
        go_wp2
        go_roundg (m - (i + 1))
        case measure => omega
        case rel => exact ⟨i + 1, by go_num, by omega, by rw [HT.out, HX.out]; simpa using M.out.1⟩
      | some x =>
        rw [hx] at d1
        simp only [Option.isSome_some, if_true] at d1
        unfold ptr at d1
        have HX := Lib.hid hx
        clear hM hq heR hx
        go_wp2_with (
          at_builtin
          refine law_push rfl _ _ _ rfl Tryz.underlying25 HI.out.1 HI.out.2.1 HI.out.2.2.1 HI.out.2.2.2 hz1 M.out.1 rfl (.int .i64 ((i : Int) + 1)) rfl rfl M.out.2 (by omega) ?_
          intro a8 cap8 w8 hM8 _ _
          have M8 := Lib.hid hM8
          clear hM8)
        go_roundg (m - (i + 1))
        case measure => omega
        case rel => exact ⟨i + 1, by go_num, by omega, by rw [HT.out, HX.out]; simpa using M8.out⟩
    · have g1 : ¬ (i : Int) < (m : Int) := by omega
      obtain rfl : i = m := by omega
      clear hM hq heR
      go_wp2
      go_ret
      exact ⟨_, rfl, M.out.1⟩
set_option maxHeartbeats 1000000 in
theorem rtleft_c : Calls Tryz.prog 80 #[.pointer (some ⟨tb, 0, none⟩)] w fun e w' => e = .returned (.int .i64 T.left) ∧ Keep w w' (fun _ => False) := by
  have c0 := h.hmost
  have hl : ∀ w', Keep w w' (fun _ => False) → Calls Tryz.prog 114 #[.pointer (some ⟨tb, 0, none⟩)] w' fun e w'' => ∃ a cap, e = .returned (.slice a T.all.length cap) ∧ Keep w' w'' (fun _ => False) := fun w' K => by
    refine (rtlive_c (h.aside K) hr hok).mono ?_
    rintro e w'' ⟨v, rfl, hM⟩
    obtain ⟨a, cap, rfl⟩ := hM.valn (n := T.all.length) (by unfold TreeV.live; simp)
    exact ⟨a, cap, rfl, hM.keep⟩
  have hroom := hok.room
  unfold TreeV.left
  generalize T.most = mo at *
  generalize T.all.length = n at *
  clear h hr hok
  go_enter Tryz.func80, Tryz.ntmps80
  go_wp2
  go_region_held3 (fun w' => w'.cell? ⟨tb, 0, none⟩ = some (.int .i64 mo)) (go_keep) (first
    | (go_at_call 114
       refine (hl _ ?_).mono ?_
       · first | exact Keep.refl _ _ | exact Keep.drew _ _ | exact drewN_keep _ _ _
       rintro e w2 ⟨a, cap, rfl, k2⟩
       have c2 := (Keep.trans (Keep.drew w (fun _ => False)) k2 (fun _ q => q.elim)).cell c0 (fun q => q)
       have K2 := Lib.hid (Keep.trans (Keep.drew w (fun _ => False)) k2 (fun _ q => q.elim))
       clear hl k2))
  all_goals go_wp2
  go_ret
  exact ⟨by rw [IntWalk.i64_in _ (by omega)]; rfl, K2.out⟩
set_option maxHeartbeats 1000000 in
theorem rtwithin_c (hu : RUps s T) (n d : Int) :
    Calls Tryz.prog 87 #[.pointer (some ⟨tb, 0, none⟩), .int .i64 n, .int .i64 d] w fun e w' => e = .returned (.bool (T.within n d)) ∧ w = w' := by
  have hd := rtdir_c h hr d
  have hn := rtdir_c h hr n
  unfold TreeV.within
  cases hnx : T.dir n with
  | none =>
    rw [isDir_not hnx] at hn
    simp only [Bool.false_eq_true, if_false] at hn
    have hz : (if (T.dir d).isNone = true then false else T.withinF T.all.length n d) = false := by
      split
      · rfl
      · cases T.all.length with
        | zero => rfl
        | succ k => simp only [TreeV.withinF]; rw [if_pos (.inl (by rw [hnx]; rfl))]
    rw [hz]
    clear h hr hok hu hd hnx hz
    go_enter Tryz.func87, Tryz.ntmps87
    go_wp2_with (
      go_at_call 75
      refine hn.mono ?_
      rintro e w1 ⟨rfl, rfl⟩
      clear hn)
    go_ret
    exact ⟨rfl, rfl⟩
  | some x =>
    rw [isDir_eq hnx] at hn
    simp only [if_true] at hn
    cases hdx : T.dir d with
    | none =>
      rw [isDir_not hdx] at hd
      simp only [Bool.false_eq_true, if_false, Option.isNone_none, if_true] at hd ⊢
      clear h hr hok hu hnx hdx
      go_enter Tryz.func87, Tryz.ntmps87
      go_wp2_with (first
        | (go_at_call 75
           refine hn.mono ?_
           rintro e w1 ⟨rfl, rfl⟩
           clear hn)
        | (go_at_call 75
           refine hd.mono ?_
           rintro e w1 ⟨rfl, rfl⟩
           clear hd))
      go_ret
      exact ⟨rfl, rfl⟩
    | some dx =>
      rw [isDir_eq hdx] at hd
      simp only [Bool.false_eq_true, if_false, Option.isNone_some, if_true] at hd ⊢
      obtain ⟨rank, hrk⟩ := hok.deep
      have H := Lib.hid (And.intro h (And.intro hok (And.intro hrk (And.intro hr hu))))
      obtain ⟨res, hres⟩ : ∃ res, T.withinF T.all.length n d = res := ⟨_, rfl⟩
      rw [hres]
      have HR := Lib.hid (And.intro hres hnx)
      clear h hok hrk hr hu hres hnx hdx
      go_enter Tryz.func87, Tryz.ntmps87
      go_wp2_with (first
        | (go_at_call 75
           refine hn.mono ?_
           rintro e w1 ⟨rfl, rfl⟩
           clear hn)
        | (go_at_call 75
           refine hd.mono ?_
           rintro e w1 ⟨rfl, rfl⟩
           clear hd))
      go_loopg [1, 7] (lower T rank n) (fun g s1 s7 wr => ∃ m x, s1 = .int .i64 m ∧ s7 = .pointer (some ⟨s.na m, 0, none⟩) ∧ T.dir m = some x ∧ g = lower T rank m ∧ T.withinF (g + 1) m d = res ∧ w = wr)
      case atStart =>
        refine ⟨n, x, rfl, rfl, HR.out.2, rfl, ?_, rfl⟩
        rw [← HR.out.1]
        exact H.out.2.1.withinF_more H.out.2.2.1 d _ _ n (by omega) (lower_all (TreeV.dir_some HR.out.2).1)
      case round =>
        obtain ⟨m, x, rfl, rfl, hdm, hg, hw, rfl⟩ := hrel
        simp only [TreeV.withinF] at hw
        rw [hdm] at hw
        simp only [Option.isNone_some, Bool.false_eq_true, false_or, if_true] at hw
        have c9 := (H.out.1.cells (TreeV.dir_some hdm).1).up
        rw [H.out.2.2.2.2 _ (aget_memN (TreeV.dir_some hdm).1) (TreeV.dir_some hdm).2] at c9
        simp only at c9
        by_cases q1 : T.upOf m = m
        · rw [if_pos q1] at hw
          have g1 : (T.upOf m != m) = false := by simpa using q1
          subst hw
          clear hg hdm q1
          go_wp2
          go_ret
          exact ⟨rfl, rfl⟩
        · rw [if_neg q1] at hw
          have g1 : (T.upOf m != m) = true := by simpa using q1
          have hlow := H.out.2.1.up_lower H.out.2.2.1 hdm q1
          by_cases q2 : T.upOf m = d
          · rw [if_pos q2] at hw
            have g2 : (T.upOf m == d) = true := by simpa using q2
            subst hw
            clear hg hdm q1 q2 hlow
            go_wp2
            go_ret
            exact ⟨rfl, rfl⟩
          · rw [if_neg q2] at hw
            have g2 : (T.upOf m == d) = false := by simpa using q2
            obtain ⟨up, hup⟩ : ∃ up, up = T.upOf m := ⟨_, rfl⟩
            rw [← hup] at c9 g1 g2 hw hlow
            obtain ⟨y, hy⟩ := Option.isSome_iff_exists.1 (show (T.dir up).isSome = true from hlow.2)
            have hau := rtat_s H.out.1 H.out.2.2.2.1 (TreeV.dir_some hy).1
            have Q := Lib.hid (And.intro hup (And.intro hlow (And.intro hw (And.intro hg hy))))
            clear hg hdm q1 q2 hup hlow hw hy
            go_wp2_with (
              go_at_call 84
              refine hau.mono ?_
              rintro e w1 ⟨rfl, rfl⟩
              clear hau)
            go_roundg (lower T rank up)
            case measure => have := Q.out.2.1.1; have := Q.out.2.2.2.1; omega
            case rel =>
              refine ⟨up, y, rfl, rfl, Q.out.2.2.2.2, rfl, ?_, rfl⟩
              rw [← Q.out.2.2.1]
              exact H.out.2.1.withinF_more H.out.2.2.1 d _ _ up (by omega) (by have := Q.out.2.1.1; have := Q.out.2.2.2.1; omega)
end
end Go.Proofs.YtoanccechefclaaGreatDoor
namespace Go.Proofs.YtoanccechefclaaGreatDoor
open Go Go.RowKit
set_option maxRecDepth 100000
theorem rtstat_res {W : World} {b : Nat} {x : TreeV.StatV} {ok : Bool} {A : Array Value} (z : W.heap[b]? = some (.cells (statC x) 36 (0, 0))) (h4 : A.getD 4 undef = .pointer (some ⟨b, 0, none⟩)) (h5 : A.getD 5 undef = .bool ok) :
    (results Tryz.f89 A).run Tryz.prog W = .ok (.tuple #[.agg (statC x), .bool ok]) W := by
  have y0 : W.cell? ⟨b, 0, none⟩ = some (.int .i64 x.node) := by rw [cell_blk z]; rfl
  have y1 : W.cell? ⟨b, 1, none⟩ = some (.int .i64 x.kind) := by rw [cell_blk z]; rfl
  have y2 : W.cell? ⟨b, 2, none⟩ = some (.int .i64 x.mode) := by rw [cell_blk z]; rfl
  have y3 : W.cell? ⟨b, 3, none⟩ = some (.int .i64 x.uid) := by rw [cell_blk z]; rfl
  have y4 : W.cell? ⟨b, 4, none⟩ = some (.int .i64 x.gid) := by rw [cell_blk z]; rfl
  have y5 : W.cell? ⟨b, 5, none⟩ = some (.int .i64 x.links) := by rw [cell_blk z]; rfl
  have y6 : W.cell? ⟨b, 6, none⟩ = some (.int .i64 x.size) := by rw [cell_blk z]; rfl
  have h4' : A[4]?.getD undef = .pointer (some ⟨b, 0, none⟩) := by simpa using h4
  have h5' : A[5]?.getD undef = .bool ok := by simpa using h5
  simp [results, Tryz.results89, go_sem, h4', h5', y0, y1, y2, y3, y4, y5, y6, statC]
theorem rtstat_end {w W : World} {b : Nat} {x y : TreeV.StatV} {ok : Bool} {T : TreeV} {n : Int} (hb : StatAt W b y) (K : Keep w W (fun _ => False)) (hlt : w.heap.size ≤ b) (he : T.stat n = (x, ok)) (A : Array Value)
    (h4 : A.getD 4 undef = .pointer (some ⟨b, 0, none⟩)) (h5 : A.getD 5 undef = .bool ok) :
    bodyPost Tryz.prog Tryz.f89 (fun e w' => e = Ending.returned (.tuple #[.agg (statC (T.stat n).1), .bool (T.stat n).2]) ∧ Keep w w' (fun _ => False)) Exit.ret ⟨A, []⟩
      (((((((W.setCell ⟨b, 0, none⟩ (.int .i64 x.node)).setCell ⟨b, 1, none⟩ (.int .i64 x.kind)).setCell ⟨b, 2, none⟩ (.int .i64 x.mode)).setCell ⟨b, 3, none⟩ (.int .i64 x.uid)).setCell ⟨b, 4, none⟩ (.int .i64 x.gid)).setCell ⟨b, 5, none⟩ (.int .i64 x.links)).setCell ⟨b, 6, none⟩ (.int .i64 x.size)) := by
  have s0 := heap_setCell_eq (off := 0) (Value.int .i64 x.node) hb.blk
  have s1 := heap_setCell_eq (off := 1) (Value.int .i64 x.kind) s0
  have s2 := heap_setCell_eq (off := 2) (Value.int .i64 x.mode) s1
  have s3 := heap_setCell_eq (off := 3) (Value.int .i64 x.uid) s2
  have s4 := heap_setCell_eq (off := 4) (Value.int .i64 x.gid) s3
  have s5 := heap_setCell_eq (off := 5) (Value.int .i64 x.links) s4
  have s6 := heap_setCell_eq (off := 6) (Value.int .i64 x.size) s5
  refine bodyPost_ret (rtstat_res (x := x) (by simpa [statC] using s6) h4 h5) rfl ⟨by rw [he], ?_⟩
  exact ((((((K.setNew _ _ hlt).setNew _ _ hlt).setNew _ _ hlt).setNew _ _ hlt).setNew _ _ hlt).setNew _ _ hlt).setNew _ _ hlt
set_option maxHeartbeats 2000000 in
theorem rtstat_c {w : World} {tb : Nat} {s : RShape} {bl : Int} {T : TreeV} (h : RTreeIn w tb s bl T) (hr : T.rng) (hok : T.ok) (hs : T.small 1000000) (n : Int) :
    Calls Tryz.prog 89 #[.pointer (some ⟨tb, 0, none⟩), .int .i64 n] w fun e w' => e = .returned (.tuple #[.agg (statC (T.stat n).1), .bool (T.stat n).2]) ∧ Keep w w' (fun _ => False) := by
  go_enter Tryz.func89, Tryz.ntmps89
  go_upto_region 1 with (fail)
  obtain ⟨wB, hwB⟩ : ∃ wB, wB = w.alloc (.cells #[.int .i64 0, .int .i64 0, .int .i64 0, .int .i64 0, .int .i64 0, .int .i64 0, .int .i64 0] 36) := ⟨_, rfl⟩
  have W0 := boxes1 w (.cells #[.int .i64 0, .int .i64 0, .int .i64 0, .int .i64 0, .int .i64 0, .int .i64 0, .int .i64 0] 36)
  rw [← hwB] at W0
  rw [← hwB]
  clear hwB
  have hB := h.aside W0.1
  have zB := W0.2.2
  have hS : StatAt wB w.heap.size ⟨0, 0, 0, 0, 0, 0, 0⟩ := ⟨W0.2.1⟩
  cases hx : aget T.all n with
  | none =>
    have ha := rtat_n hB hr hx
    have he : T.stat n = (⟨0, 0, 0, 0, 0, 0, 0⟩, false) := by unfold TreeV.stat; rw [hx]
    have f := hS.free
    obtain ⟨d0, d1, d2, d3, d4, d5, d6⟩ := hS.cells
    have f0 := f 0
    have f1 := f 1
    have f2 := f 2
    have f3 := f 3
    have f4 := f 4
    have f5 := f 5
    have f6 := f 6
    have HW := Lib.hid (And.intro W0 (And.intro hS he))
    clear h hx W0 hB hS he f hr hok hs zB
    go_wp2_with (
      go_at_call 84
      refine ha.mono ?_
      rintro e w1 ⟨rfl, rfl⟩
      clear ha)
    exact rtstat_end HW.out.2.1 HW.out.1.1 (Nat.le_refl _) HW.out.2.2 _ rfl rfl
  | some x =>
    have ha := rtat_s hB hr hx
    obtain ⟨c0, c1, c2, c3, c4, c5, c6, c7, c8, c9, c10, c11, c12⟩ := hB.cells hx
    have H := Lib.hid (And.intro hB (And.intro hx (And.intro hS W0)))
    clear hB hS W0
    go_upto_region 5 with (
      go_at_call 84
      refine ha.mono ?_
      rintro e w1 ⟨rfl, rfl⟩
      clear ha)
    obtain ⟨wC, hwC⟩ : ∃ wC, wC = wB.alloc (.cells #[.int .i64 n, .int .i64 x.kind, .int .i64 x.mode, .int .i64 x.uid, .int .i64 x.gid, .int .i64 0, .int .i64 0] 36) := ⟨_, rfl⟩
    have W1 := boxes1 wB (.cells #[.int .i64 n, .int .i64 x.kind, .int .i64 x.mode, .int .i64 x.uid, .int .i64 x.gid, .int .i64 0, .int .i64 0] 36)
    rw [← hwC] at W1
    rw [← hwC]
    clear hwC c0 c1 c2 c3 c4 c5 c6 c7 c8 c9 c10 c11 c12
    obtain ⟨hB, -, hS, W0⟩ := H.out
    have hC := hB.aside W1.1
    have hl0 := hs.node hx
    have hlk := rlinks_c hC hr hok hx (by omega)
    have hS1 : StatAt wC (w.heap.size + 1) ⟨n, x.kind, x.mode, x.uid, x.gid, 0, 0⟩ := ⟨by rw [← zB]; exact W1.2.1⟩
    have hS0 : StatAt wC w.heap.size ⟨0, 0, 0, 0, 0, 0, 0⟩ := ⟨W1.1.get hS.blk (fun q => q)⟩
    have kC : Keep w wC (fun _ => False) := W0.1.aside W1.1
    have i5 := hS1.free 5
    have e5 := hS1.cells.2.2.2.2.2.1
    simp only at e5
    have HC := Lib.hid (And.intro hS0 (And.intro hS1 kC))
    clear hB hS W0 W1 H hC hS0 hS1 kC hl0 zB
    have hlo : T.linksOf n x = if x.kind = 1 then T.dirs n x else x.links := rfl
    generalize T.linksOf n x = lk at *
    have HLO := Lib.hid hlo
    clear hlo
    go_upto_region 6 with (
      go_at_call 79
      refine hlk.mono ?_
      rintro e w1 ⟨rfl, rfl⟩
      clear hlk)
    obtain ⟨wD, hwD⟩ : ∃ wD, wD = wC.setCell ⟨w.heap.size + 1, 5, none⟩ (.int .i64 lk) := ⟨_, rfl⟩
    have kD : Keep wC wD (fun b => b = w.heap.size + 1) := by rw [hwD]; exact Keep.setCell _ _ _
    have sD := heap_setCell_eq (off := 5) (Value.int .i64 lk) HC.out.2.1.blk
    rw [← hwD] at sD ⊢
    clear hwD e5 i5
    have hS1 : StatAt wD (w.heap.size + 1) ⟨n, x.kind, x.mode, x.uid, x.gid, lk, 0⟩ := ⟨sD⟩
    have hS0 : StatAt wD w.heap.size ⟨0, 0, 0, 0, 0, 0, 0⟩ := ⟨kD.get HC.out.1.blk (by omega)⟩
    have kwD : Keep w wD (fun _ => False) := HC.out.2.2.trans kD (fun b q => .inr (by omega))
    have hD : RTreeIn wD tb s bl T := h.aside kwD
    obtain ⟨e0, e1, e2, e3, e4, e5, e6⟩ := hS1.cells
    have i6 := hS1.free 6
    simp only at e1 e6
    have D := Lib.hid (And.intro hS0 (And.intro hS1 (And.intro kwD hx)))
    have hk3 := hok.kinds _ (aget_memN hx)
    simp only at hk3
    clear sD kD hS1 hS0 kwD HC e0 e2 e3 e4 e5 hr hok
    by_cases hk : x.kind = 1
    · have hl6 := (hs.node hx).2.2
      have he : T.stat n = (⟨n, 1, x.mode, x.uid, x.gid, lk, x.names.length⟩, true) := by
        unfold TreeV.stat
        rw [hx]
        have := HLO.out
        rw [if_pos hk] at this
        simp only [TreeV.statOf, hk, if_true, this]
      obtain ⟨ea, ec, hev, hc⟩ := rows_val2 (hD.ents_at hx)
      have c8 := (hD.cells hx).ents
      rw [hev] at c8
      rw [hk] at e1
      have HE := Lib.hid (And.intro he hk)
      generalize x.names.length = ln at *
      generalize s.na n = nb at *
      clear hD h hx hev hk he hs HLO hc
      go_upto_region 13 with (fail)
      obtain ⟨wE, hwE⟩ : ∃ wE, wE = wD.setCell ⟨w.heap.size + 1, 6, none⟩ (.int .i64 ln) := ⟨_, rfl⟩
      have t6 := heap_setCell_eq (off := 6) (Value.int .i64 ln) D.out.2.1.blk
      have K2 : Keep wD wE (fun b => b = w.heap.size + 1) := by rw [hwE]; exact Keep.setCell _ _ _
      rw [← hwE] at t6 ⊢
      have hE1 : StatAt wE (w.heap.size + 1) ⟨n, 1, x.mode, x.uid, x.gid, lk, ln⟩ := ⟨by rw [HE.out.2] at t6; simpa [statC] using t6⟩
      have kE : Keep w wE (fun _ => False) := D.out.2.2.1.trans K2 (fun b q => .inr (by omega))
      have hE0 : StatAt wE w.heap.size ⟨0, 0, 0, 0, 0, 0, 0⟩ := ⟨K2.get D.out.1.blk (by omega)⟩
      clear hwE t6 K2 c8 e1 e6 i6
      obtain ⟨e0, e1, e2, e3, e4, e5, e6⟩ := hE1.cells
      obtain ⟨d0, d1, d2, d3, d4, d5, d6⟩ := hE0.cells
      have f := hE0.free
      have f0 := f 0
      have f1 := f 1
      have f2 := f 2
      have f3 := f 3
      have f4 := f 4
      have f5 := f 5
      have f6 := f 6
      simp only at d0 d1 d2 d3 d4 d5 d6 e0 e1 e2 e3 e4 e5 e6
      have E := Lib.hid (And.intro hE0 kE)
      clear hE0 hE1 kE f
      go_wp2
      exact rtstat_end E.out.1 E.out.2 (Nat.le_refl _) HE.out.1 _ rfl rfl
    · have g1 : (x.kind == 1) = false := by simpa using hk
      by_cases hk2 : x.kind = 2
      · have he : T.stat n = (⟨n, 2, x.mode, x.uid, x.gid, lk, T.pool.size x.file⟩, true) := by
          unfold TreeV.stat
          rw [hx]
          have := HLO.out
          rw [if_neg hk] at this
          simp only [TreeV.statOf, hk2, show ¬ ((2 : Int) = 1) by decide, if_true, if_false, this]
        have hz : ∀ w', Keep wD w' (fun _ => False) → Calls Tryz.prog 116 #[.pointer (some ⟨s.pb, 0, none⟩), .int .i64 x.file] w' fun e w2 => e = .returned (.int .i64 (T.pool.size x.file)) ∧ w2 = w' := fun w' k => rSize_c (hD.aside k).pool (by have := hs.pool; omega) x.file
        have q1 := hD.hpool
        have q2 := (hD.cells hx).file
        rw [hk2] at e1
        have ht1 : tb ≠ w.heap.size + 1 := fun q => by have := h.lt _ _ h.tTree; omega
        have hne : s.na n ≠ w.heap.size + 1 := fun q => by have := h.lt _ _ (h.tnode hx); omega
        have HE := Lib.hid (And.intro he hk2)
        generalize hdn : T.pool.size x.file = dn at *
        have hQ1 := (Keep.setCell wD.drew ⟨w.heap.size + 1, 6, none⟩ (.int .i64 dn)).cell (show wD.drew.cell? ⟨tb, 1, none⟩ = _ from q1) ht1
        have hQ2 := (Keep.setCell wD.drew ⟨w.heap.size + 1, 6, none⟩ (.int .i64 dn)).cell (show wD.drew.cell? ⟨s.na n, 12, none⟩ = _ from q2) hne
        clear hD h hx hk hk2 he hs HLO hdn g1
        go_upto_region 10 with (fail)
        go_region_held3 (fun w' => w'.cell? ⟨tb, 1, none⟩ = some (.pointer (some ⟨s.pb, 0, none⟩)) ∧ w'.cell? ⟨s.na n, 12, none⟩ = some (.int .i64 x.file))
          ((go_split_ands; refine ⟨?_, ?_⟩ <;> first
             | exact hQ1
             | exact hQ2
             | go_keep)) (first
          | (go_at_call 116
             refine (hz _ ?_).mono ?_
             · repeat (first | exact Keep.refl _ _ | refine Keep.drewNew ?_)
             rintro e w4 ⟨rfl, hw4⟩
             subst hw4
             have i6' : wD.drew.frozen? ⟨w.heap.size + 1, 6, none⟩ = false := D.out.2.1.free 6
             have z6 : wD.drew.cell? ⟨w.heap.size + 1, 6, none⟩ = some (.int .i64 0) := D.out.2.1.cells.2.2.2.2.2.2))
        rw [show (wD.setCell ⟨w.heap.size + 1, 6, none⟩ (.int .i64 dn)).drew = wD.drew.setCell ⟨w.heap.size + 1, 6, none⟩ (.int .i64 dn) from rfl]
        obtain ⟨wE, hwE⟩ : ∃ wE, wE = wD.drew.setCell ⟨w.heap.size + 1, 6, none⟩ (.int .i64 dn) := ⟨_, rfl⟩
        have t6 := heap_setCell_eq (off := 6) (Value.int .i64 dn) (show wD.drew.heap[w.heap.size + 1]? = _ from D.out.2.1.blk)
        have K2 := Keep.setCell wD.drew ⟨w.heap.size + 1, 6, none⟩ (.int .i64 dn)
        rw [← hwE] at K2 t6 ⊢
        have hE1 : StatAt wE (w.heap.size + 1) ⟨n, 2, x.mode, x.uid, x.gid, lk, dn⟩ := ⟨by rw [HE.out.2] at t6; simpa [statC] using t6⟩
        have kE : Keep w wE (fun _ => False) := (D.out.2.2.1.aside (Keep.drew _ _)).trans K2 (fun b q => .inr (by have q' : b = w.heap.size + 1 := q; omega))
        have hE0 : StatAt wE w.heap.size ⟨0, 0, 0, 0, 0, 0, 0⟩ := ⟨K2.get (show wD.drew.heap[w.heap.size]? = _ from D.out.1.blk) (by simp)⟩
        clear hwE t6 K2 hQ1 hQ2 q1 q2 i6' z6 e1 e6 i6
        obtain ⟨e0, e1, e2, e3, e4, e5, e6⟩ := hE1.cells
        obtain ⟨d0, d1, d2, d3, d4, d5, d6⟩ := hE0.cells
        have f := hE0.free
        have f0 := f 0
        have f1 := f 1
        have f2 := f 2
        have f3 := f 3
        have f4 := f 4
        have f5 := f 5
        have f6 := f 6
        simp only at d0 d1 d2 d3 d4 d5 d6 e0 e1 e2 e3 e4 e5 e6
        have E := Lib.hid (And.intro hE0 kE)
        clear hE0 hE1 kE f
        go_wp2
        exact rtstat_end E.out.1 E.out.2 (Nat.le_refl _) HE.out.1 _ rfl rfl
      · have g2 : (x.kind == 2) = false := by simpa using hk2
        have hk3' : x.kind = 3 := by omega
        have he : T.stat n = (⟨n, 3, x.mode, x.uid, x.gid, lk, x.text.size⟩, true) := by
          unfold TreeV.stat
          rw [hx]
          have := HLO.out
          rw [if_neg hk] at this
          simp only [TreeV.statOf, hk3', show ¬ ((3 : Int) = 1) by decide, show ¬ ((3 : Int) = 2) by decide, if_false, this]
        have c7 := (hD.cells hx).text
        rw [hk3'] at e1
        have HE := Lib.hid (And.intro he hk3')
        generalize s.na n = nb at *
        clear hD h hx hk hk2 hk3 hk3' he hs HLO g1 g2
        go_upto_region 13 with (fail)
        obtain ⟨wE, hwE⟩ : ∃ wE, wE = wD.setCell ⟨w.heap.size + 1, 6, none⟩ (.int .i64 x.text.size) := ⟨_, rfl⟩
        have t6 := heap_setCell_eq (off := 6) (Value.int .i64 x.text.size) D.out.2.1.blk
        have K2 : Keep wD wE (fun b => b = w.heap.size + 1) := by rw [hwE]; exact Keep.setCell _ _ _
        rw [← hwE] at t6 ⊢
        have hE1 : StatAt wE (w.heap.size + 1) ⟨n, 3, x.mode, x.uid, x.gid, lk, x.text.size⟩ := ⟨by rw [HE.out.2] at t6; simpa [statC] using t6⟩
        have kE : Keep w wE (fun _ => False) := D.out.2.2.1.trans K2 (fun b q => .inr (by omega))
        have hE0 : StatAt wE w.heap.size ⟨0, 0, 0, 0, 0, 0, 0⟩ := ⟨K2.get D.out.1.blk (by omega)⟩
        clear hwE t6 K2 c7 e1 e6 i6
        obtain ⟨e0, e1, e2, e3, e4, e5, e6⟩ := hE1.cells
        obtain ⟨d0, d1, d2, d3, d4, d5, d6⟩ := hE0.cells
        have f := hE0.free
        have f0 := f 0
        have f1 := f 1
        have f2 := f 2
        have f3 := f 3
        have f4 := f 4
        have f5 := f 5
        have f6 := f 6
        simp only at d0 d1 d2 d3 d4 d5 d6 e0 e1 e2 e3 e4 e5 e6
        have E := Lib.hid (And.intro hE0 kE)
        clear hE0 hE1 kE f
        go_wp2
        exact rtstat_end E.out.1 E.out.2 (Nat.le_refl _) HE.out.1 _ rfl rfl
end Go.Proofs.YtoanccechefclaaGreatDoor
