/-
  Trees without holds whose names are those of three; what a Dir tells of itself (plainly).
-/
import Derived.Test.YtnjfcedkfobbcaaTame
import Derived.Test.YtnjfcedkfobbcaaTreeBack
import Derived.Sort.Walk0
namespace Go.Proofs.Ytnjfcedkfobbcaa
open Go Go.RowKit Go.Shelf Go.Sort
set_option linter.unusedSectionVars false
set_option linter.unusedSimpArgs false
set_option linter.unusedVariables false

def abcK (s : ByteArray) : Prop := s = ka ∨ s = kb ∨ s = kC
structure PlainT (T : TreeV) : Prop where
  keys : ∀ x ∈ T.all, ∀ e ∈ x.2.names, abcK e.1
  held : ∀ x ∈ T.all, x.2.holds = 0

namespace PlainT
variable {T : TreeV} (h : PlainT T)
theorem new (n b : Int) : PlainT (TreeV.new n b) := by
  constructor <;> intro x hx <;> simp only [TreeV.new, List.mem_cons, List.not_mem_nil, or_false] at hx <;> subst hx
  · intro e he; cases he
  · rfl
include h
theorem set (n : Int) {x : NodeV} (h1 : ∀ e ∈ x.names, abcK e.1) (h2 : x.holds = 0) : ∀ y ∈ aset T.all n x, (∀ e ∈ y.2.names, abcK e.1) ∧ y.2.holds = 0 := by
  intro y hy
  rcases mem_aset_any hy with q | q
  · rw [q]; exact ⟨h1, h2⟩
  · exact ⟨h.keys y q, h.held y q⟩
theorem turned (t : Int) : PlainT { T with turns := t } := ⟨h.keys, h.held⟩
theorem pooled (V : PoolV) : PlainT { T with pool := V } := ⟨h.keys, h.held⟩
theorem add (kind mode uid gid : Int) (text : ByteArray) : PlainT (T.add kind mode uid gid text) := by
  have := h.set (T.made + 1) (x := ⟨kind, mode, uid, gid, [], 0, 0, 0, text, if kind = 2 then T.pool.made + 1 else 0⟩) (fun e he => by cases he) rfl
  exact ⟨fun x hx => (this x hx).1, fun x hx => (this x hx).2⟩
theorem give (d n : Int) {s : ByteArray} (hs : abcK s) : PlainT (T.give d s n) := by
  unfold TreeV.give
  split
  · rename_i dx x h1 h2
    have a1 := h.set d (x := { dx with names := aset dx.names s n }) (fun e he => by
      rcases mem_asetS he with z | z
      · rw [z]; exact hs
      · exact h.keys _ (aget_memN h1) e z) (h.held _ (aget_memN h1))
    constructor <;> intro y hy <;> rcases mem_aset_any hy with q | q
    · rw [q]; exact h.keys (n, x) (aget_memN h2)
    · exact (a1 y q).1
    · rw [q]; exact h.held (n, x) (aget_memN h2)
    · exact (a1 y q).2
  · exact h
theorem lose (d n : Int) (s : ByteArray) : PlainT (T.loseName d s n) := by
  unfold TreeV.loseName
  split
  · rename_i dx x h1 h2
    have a1 := h.set d (x := { dx with names := adel dx.names s }) (fun e he => h.keys _ (aget_memN h1) e (adel_subN e he)) (h.held _ (aget_memN h1))
    constructor <;> intro y hy <;> rcases mem_aset_any hy with q | q
    · rw [q]; exact h.keys (n, x) (aget_memN h2)
    · exact (a1 y q).1
    · rw [q]; exact h.held (n, x) (aget_memN h2)
    · exact (a1 y q).2
  · exact h
theorem drop (n : Int) : PlainT (T.drop n) := by
  unfold TreeV.drop
  cases aget T.all n with
  | none => exact h
  | some x =>
    dsimp only
    split
    · exact h
    · exact ⟨fun y hy => h.keys y (mem_adel_any hy), fun y hy => h.held y (mem_adel_any hy)⟩
theorem take (d n : Int) (s : ByteArray) : PlainT (T.take d s n) := ((h.lose d n s).turned (T.turns + 1)).drop n
theorem make {r : Bool} (d : Int) {s : ByteArray} (hs : abcK s) (kind mode uid gid : Int) (text : ByteArray) : PlainT (T.make r d s kind mode uid gid text).1 := by
  unfold TreeV.make
  cases T.dir d with
  | none => exact h
  | some x =>
    dsimp only
    repeat (split; · exact h)
    exact (h.add ..).give _ _ hs
theorem join {r : Bool} (d : Int) {s : ByteArray} (hs : abcK s) (n : Int) : PlainT (T.join r d s n).1 := by
  unfold TreeV.join
  cases T.dir d with
  | none => exact h
  | some dx =>
    cases aget T.all n with
    | none => exact h
    | some x =>
      dsimp only
      repeat (split; · exact h)
      exact h.give _ _ hs
theorem part (d : Int) (s : ByteArray) : PlainT (T.part d s).1 := by
  unfold TreeV.part
  cases T.dir d with
  | none => exact h
  | some dx =>
    dsimp only
    cases aget dx.names s with
    | none => exact h
    | some n =>
      dsimp only
      cases aget T.all n with
      | none => exact h
      | some y =>
        dsimp only
        split
        · exact h
        · exact h.take ..
theorem move {r : Bool} (d : Int) (s : ByteArray) (e : Int) {z : ByteArray} (hz : abcK z) : PlainT (T.move r d s e z).1 := by
  unfold TreeV.move
  cases T.dir d with
  | none => exact h
  | some dx =>
    cases T.dir e with
    | none => exact h
    | some ex =>
      dsimp only
      split
      · exact h
      cases aget dx.names s with
      | none => exact h
      | some n =>
        dsimp only
        repeat (split; · exact h)
        cases aget ex.names z with
        | none =>
          dsimp only
          split
          · exact h
          · exact (h.lose ..).give _ _ hz
        | some m =>
          dsimp only
          repeat (split; · exact h)
          exact ((h.take ..).lose ..).give _ _ hz
end PlainT

/-- Of the names of a Dir, in order: how many of the first are Dirs. -/
def dirsUpto (T : TreeV) (x : NodeV) (k : Nat) : Nat := (((sortedN x.names).take k).filter fun s => T.isDir ((aget x.names s).getD 0)).length
theorem dirsUpto_zero (T : TreeV) (x : NodeV) : dirsUpto T x 0 = 0 := by simp [dirsUpto]
theorem dirsUpto_succ {T : TreeV} {x : NodeV} {k : Nat} {s : ByteArray} {n : Int} (hs : (sortedN x.names)[k]? = some s) (hn : aget x.names s = some n) : dirsUpto T x (k + 1) = dirsUpto T x k + if T.isDir n then 1 else 0 := by
  unfold dirsUpto
  rw [List.take_add_one, hs, List.filter_append, List.length_append]
  congr 1
  simp only [Option.toList_some, List.filter_cons, List.filter_nil, hn, Option.getD_some]
  split <;> rfl
theorem aget_ofS {L : List (ByteArray × Int)} (hn : (L.map Prod.fst).Nodup) {e : ByteArray × Int} (he : e ∈ L) : aget L e.1 = some e.2 := by
  induction L with
  | nil => cases he
  | cons y r ih =>
    obtain ⟨a, u⟩ := y
    simp only [List.map_cons, List.nodup_cons] at hn
    simp only [aget]
    rcases List.mem_cons.1 he with q | q
    · rw [q, if_pos rfl]
    · rw [if_neg (fun z => hn.1 (by rw [z]; exact List.mem_map_of_mem (f := Prod.fst) q)), ih hn.2 q]
theorem dirsUpto_all {T : TreeV} {x : NodeV} (hn : (x.names.map Prod.fst).Nodup) {k : Nat} (hk : (sortedN x.names).length ≤ k) : dirsUpto T x k = (x.names.filter fun e => T.isDir e.2).length := by
  unfold dirsUpto
  rw [List.take_of_length_le hk]
  have hp : (sortedN x.names).Perm (x.names.map Prod.fst) := sortS_perm _
  rw [(hp.filter _).length_eq, List.filter_map, List.length_map]
  congr 1
  apply List.filter_congr
  intro e he
  simp only [Function.comp]
  rw [aget_ofS hn he]
  rfl
theorem sorted_found {x : NodeV} (hn : (x.names.map Prod.fst).Nodup) {k : Nat} {s : ByteArray} (hs : (sortedN x.names)[k]? = some s) : ∃ n, aget x.names s = some n ∧ (s, n) ∈ x.names := by
  have hm : s ∈ sortedN x.names := List.mem_of_getElem? hs
  have hp : (sortedN x.names).Perm (x.names.map Prod.fst) := sortS_perm _
  obtain ⟨e, he, rfl⟩ := List.mem_map.1 (hp.mem_iff.1 hm)
  exact ⟨e.2, aget_ofS hn he, he⟩
theorem sorted_strict {x : NodeV} (hn : (x.names.map Prod.fst).Nodup) {k : Nat} {s t : ByteArray} (hs : (sortedN x.names)[k]? = some s) (ht : (sortedN x.names)[k + 1]? = some t) : leS s t ∧ s ≠ t := by
  have hd : (sortedN x.names).Nodup := (sortS_perm _).nodup_iff.2 hn
  obtain ⟨h1, e1⟩ := List.getElem?_eq_some_iff.1 hs
  obtain ⟨h2, e2⟩ := List.getElem?_eq_some_iff.1 ht
  refine ⟨?_, fun q => ?_⟩
  · have := List.pairwise_iff_getElem.1 (sortS_sorted (x.names.map Prod.fst)) k (k + 1) h1 h2 (by omega)
    rw [← e1, ← e2]
    exact this
  · rw [← e1, ← e2] at q
    exact (List.pairwise_iff_getElem.1 hd) k (k + 1) h1 h2 (by omega) q

theorem less_of {x y : ByteArray} (h : leS x y) (hn : x ≠ y) : Op.bytesLess x.toList y.toList = true := by
  rw [ByteArray.toList_eq, ByteArray.toList_eq, bytesLess_eq]
  unfold leS leL at h
  rw [decide_eq_true_eq] at h
  rw [decide_eq_true_eq]
  exact Classical.byContradiction fun q => hn (ByteArray.ext (Array.toList_inj.1 (List.le_antisymm h (List.not_lt.1 q))))

/-- What a live node tells where nothing is held. -/
theorem TreeV.okBut.tells {T : TreeV} (h : T.ok) (hp : PlainT T) {m : Int} {x : NodeV} (hx : aget T.all m = some x) : T.stat m = (T.statOf m x, true) ∧ (x.kind = 1 → TreeV.named m x = true) := by
  refine ⟨by unfold TreeV.stat; rw [hx], fun hk => ?_⟩
  have hm := aget_memN hx
  have h0 : m ≠ 0 := by have := (h.range _ hm).1; simp only at this; omega
  have hh := hp.held _ hm
  simp only at hh
  unfold TreeV.named
  rcases h.kept _ hm h0 with q | q | q
  · simp only at q; simp [q]
  · simp only at q; simp [q]
  · simp only at q; omega

/-- What is told of a name of a Dir, and of one that is none. -/
theorem TreeV.okBut.child {T : TreeV} (h : T.ok) (hp : PlainT T) {m : Int} {x : NodeV} (hx : aget T.all m = some x) (hk : x.kind = 1) {s : ByteArray} {n : Int} (hn : aget x.names s = some n) :
    T.find m s = (n, true) ∧ ∃ v : TreeV.StatV, T.stat n = (v, true) ∧ (v.kind = 1 ↔ T.isDir n = true) := by
  refine ⟨by unfold TreeV.find; rw [TreeV.dir_of hx hk]; simp only [hn], ?_⟩
  have hk2 := (h.kids _ (aget_memN hx) _ (aget_memS hn)).2
  simp only at hk2
  obtain ⟨y, hy⟩ : ∃ y, aget T.all n = some y := by
    cases hq : aget T.all n with
    | some y => exact ⟨y, rfl⟩
    | none => exact absurd hk2 (aget_out hq)
  refine ⟨T.statOf n y, (h.tells hp hy).1, ?_⟩
  have hs : (T.statOf n y).kind = y.kind := by
    unfold TreeV.statOf
    split
    · rfl
    · split <;> rfl
  rw [hs]
  unfold TreeV.isDir TreeV.dir
  rw [hy]
  by_cases q : y.kind = 1 <;> simp [q]
theorem TreeV.none_found {T : TreeV} (hp : PlainT T) {m : Int} : T.find m ⟨#[110, 111, 110, 101]⟩ = (0, false) := by
  unfold TreeV.find TreeV.dir
  cases hx : aget T.all m with
  | none => rfl
  | some x =>
    by_cases hk : x.kind = 1
    · simp only [Option.filter_some, hk, decide_true, if_true]
      cases hq : aget x.names ⟨#[110, 111, 110, 101]⟩ with
      | none => rfl
      | some n =>
        exfalso
        have := hp.keys _ (aget_memN hx) _ (aget_memS hq)
        revert this
        unfold abcK
        simp only
        decide +kernel
    · simp [Option.filter_some, hk]

end Go.Proofs.Ytnjfcedkfobbcaa
