/-
  Parts of the walk's proof: BlockPure, Block, Block2, Block3, Block4, Block5, Block6, Block7, Block8. (joined by pack.py)
-/
import Derived.Test.YtoanccechefclaaGreatDoorProg
import Derived.RegionTactic
import Derived.BigRegion
import Derived.StillTailTactics
import Derived.Deep.QuietTactic
import Derived.Deep.LoopGhost
import Derived.Test.YtoanccechefclaaGreatDoorK01
set_option linter.unusedSectionVars false
set_option linter.unusedSimpArgs false
set_option linter.unusedVariables false
namespace Go.Proofs.YtoanccechefclaaGreatDoor
open Go Go.RowKit
set_option maxRecDepth 100000
structure FileV where
  size : Int
  keys : List Int
  byte : Int → Int
structure PoolV where
  left : Int
  made : Int
  files : List (Int × FileV)
def FileV.ok (F : FileV) : Prop :=
  0 ≤ F.size ∧ F.size ≤ 1024 ∧ F.keys.Nodup ∧ (∀ k ∈ F.keys, 0 ≤ k ∧ k < 64) ∧ (∀ p, p / 16 ∉ F.keys → F.byte p = 0) ∧ ∀ p, 0 ≤ F.byte p ∧ F.byte p < 256
def FileV.empty : FileV := ⟨0, [], fun _ => 0⟩
theorem FileV.empty_ok : FileV.empty.ok := ⟨by simp [FileV.empty], by simp [FileV.empty], by simp [FileV.empty], by simp [FileV.empty], by simp [FileV.empty], by simp [FileV.empty]⟩
def span (a b : Int) : List Int := (List.range (b + 1 - a).toNat).map fun (i : Nat) => a + i
def FileV.lacks (F : FileV) (at_ e : Int) : Int := ((span (at_ / 16) ((e - 1) / 16)).filter (fun k => !decide (k ∈ F.keys))).length
def FileV.addKey (F : FileV) (k : Int) : FileV := if k ∈ F.keys then F else { F with keys := F.keys ++ [k] }
def FileV.setByte (F : FileV) (p c : Int) : FileV := { F with byte := fun q => if q = p then c else F.byte q }
def FileV.put (F : FileV) (p c : Int) : FileV := (F.addKey (p / 16)).setByte p c
def FileV.puts (F : FileV) (p : Int) : List Int → FileV
  | [] => F
  | c :: r => (F.put p c).puts (p + 1) r
theorem FileV.setByte_ok {F : FileV} (h : F.ok) {p c : Int} (hk : p / 16 ∈ F.keys) (hc : 0 ≤ c ∧ c < 256) : (F.setByte p c).ok := by
  obtain ⟨a, a', b, k, d, e⟩ := h
  refine ⟨a, a', b, k, ?_, ?_⟩
  · intro q hq
    show (if q = p then c else F.byte q) = 0
    rw [if_neg (fun (z : q = p) => hq (by rw [z]; exact hk))]
    exact d q hq
  · intro q
    show 0 ≤ (if q = p then c else F.byte q) ∧ _ < _
    show 0 ≤ (if q = p then c else F.byte q) ∧ (if q = p then c else F.byte q) < 256
    split
    · exact hc
    · exact e q
theorem mem_span (a b x : Int) : x ∈ span a b ↔ a ≤ x ∧ x ≤ b := by
  unfold span
  simp only [List.mem_map, List.mem_range]
  constructor
  · rintro ⟨i, hi, rfl⟩; omega
  · intro h; exact ⟨(x - a).toNat, by omega, by omega⟩
theorem span_nodup (a b : Int) : (span a b).Nodup := by
  unfold span List.Nodup
  rw [List.pairwise_map]
  exact List.Pairwise.imp_of_mem (fun _ _ h e => h (by omega)) (List.nodup_range (n := (b + 1 - a).toNat))
def PoolV.file (V : PoolV) : PoolV := { V with made := V.made + 1, files := aset V.files (V.made + 1) FileV.empty }
def PoolV.drop (V : PoolV) (f : Int) : PoolV × Int :=
  match aget V.files f with
  | none => (V, 1)
  | some F => ({ V with left := V.left + F.keys.length, files := adel V.files f }, 0)
def PoolV.write (V : PoolV) (f p : Int) (l : List Int) : PoolV × Int :=
  match aget V.files f with
  | none => (V, 1)
  | some F =>
    if p < 0 then (V, 39) else if l = [] then (V, 0) else if 1024 < l.length ∨ 1024 - (l.length : Int) < p then (V, 42)
    else if V.left < F.lacks p (p + l.length) then (V, 43)
    else ({ V with left := V.left - F.lacks p (p + l.length), files := aset V.files f { F.puts p l with size := max F.size (p + l.length) } }, 0)
def FileV.read (F : FileV) (p n : Int) : List Int := (List.range (min n (F.size - p)).toNat).map fun (i : Nat) => F.byte (p + i)
def PoolV.read (V : PoolV) (f p n : Int) : List Int × Int :=
  match aget V.files f with
  | none => ([], 1)
  | some F => if p < 0 ∨ n < 0 then ([], 39) else if F.size ≤ p then ([], 0) else (F.read p n, 0)
def FileV.cut (F : FileV) (size : Int) : FileV :=
  { size := size, keys := F.keys.filter (fun k => decide (k * 16 < size)), byte := fun p => if p < size then F.byte p else 0 }
def PoolV.cut (V : PoolV) (f size : Int) : PoolV × Int :=
  match aget V.files f with
  | none => (V, 1)
  | some F => if size < 0 then (V, 39) else if 1024 < size then (V, 42)
    else ({ V with left := V.left + (F.keys.length - (F.cut size).keys.length), files := aset V.files f (F.cut size) }, 0)
def PoolV.size (V : PoolV) (f : Int) : Int := match aget V.files f with | none => 0 | some F => F.size
def PoolV.used (V : PoolV) (f : Int) : Int := match aget V.files f with | none => 0 | some F => F.keys.length
end Go.Proofs.YtoanccechefclaaGreatDoor
namespace Go.Proofs.YtoanccechefclaaGreatDoor
open Go Go.RowKit
set_option maxRecDepth 100000
theorem kFiles : KeyKind Tryz.prog 3 kInt := key_int Tryz.underlying3
theorem tFiles : Tryz.prog.underlying 170 = some (.map 3 169) := Tryz.underlying170
theorem tBlocks : Tryz.prog.underlying 173 = some (.map 3 289) := Tryz.underlying173
theorem zFile (w : World) : (zeroValue 169).run Tryz.prog w = .ok (.pointer none) w := by kernel_rfl
def ptr (b : Nat) : Value := .pointer (some ⟨b, 0, none⟩)
def rowOf (f : Int → Int) (k : Int) : Array Value := ((List.range 16).map fun (i : Nat) => Value.int .u8 (f (16 * k + i))).toArray
def FileAt (w : World) (xb : Nat) (S : Nat → Prop) (F : FileV) : Prop :=
  F.ok ∧ ∃ (bm : Nat) (ad : Int → Nat),
    w.heap[xb]? = some (.cells #[.int .i64 F.size, .map (some bm)] 175 (0, 0)) ∧
    MapAt w bm kInt (F.keys.map fun k => (k, ptr (ad k))) ∧
    (∀ k ∈ F.keys, w.heap[ad k]? = some (.cells (rowOf F.byte k) 290 (0, 0))) ∧
    (∀ k ∈ F.keys, ∀ j ∈ F.keys, ad k = ad j → k = j) ∧
    (∀ b, S b ↔ b = xb ∨ b = bm ∨ ∃ k ∈ F.keys, b = ad k)
def PoolAt (w : World) (pb : Nat) (S : Nat → Prop) (V : PoolV) : Prop :=
  ∃ (mf : Nat) (xa : Int → Nat) (fs : Int → Nat → Prop),
    w.heap[pb]? = some (.cells #[.int .i64 V.left, .map (some mf), .int .i64 V.made] 172 (0, 0)) ∧
    MapAt w mf kInt (V.files.map fun x => (x.1, ptr (xa x.1))) ∧
    (∀ x ∈ V.files, FileAt w (xa x.1) (fs x.1) x.2) ∧
    (∀ x ∈ V.files, ¬ fs x.1 pb ∧ ¬ fs x.1 mf) ∧
    (∀ x ∈ V.files, ∀ y ∈ V.files, x.1 ≠ y.1 → ∀ b, fs x.1 b → ¬ fs y.1 b) ∧
    (∀ b, S b ↔ b = pb ∨ b = mf ∨ ∃ x ∈ V.files, fs x.1 b)
structure Turn (w : World) (S : Nat → Prop) (w' : World) (S' : Nat → Prop) : Prop where
  keep : Keep w w' S
  new : ∀ b, S' b → S b ∨ w.heap.size ≤ b
theorem FileAt.keep {w w' : World} {xb : Nat} {S T : Nat → Prop} {F : FileV} (h : FileAt w xb S F) (k : Keep w w' T) (hd : ∀ b, S b → ¬ T b) : FileAt w' xb S F := by
  obtain ⟨hok, bm, ad, h1, h2, h3, h4, h5⟩ := h
  refine ⟨hok, bm, ad, k.get h1 (hd _ ((h5 _).2 (.inl rfl))), h2.keep k (hd _ ((h5 _).2 (.inr (.inl rfl)))), ?_, h4, h5⟩
  intro x hx
  exact k.get (h3 x hx) (hd _ ((h5 _).2 (.inr (.inr ⟨x, hx, rfl⟩))))
theorem FileAt.lt {w : World} {xb : Nat} {S : Nat → Prop} {F : FileV} (h : FileAt w xb S F) {b : Nat} (hb : S b) : b < w.heap.size := by
  obtain ⟨hok, bm, ad, h1, h2, h3, h4, h5⟩ := h
  rcases (h5 b).1 hb with rfl | rfl | ⟨k, hk, rfl⟩
  · exact lt_of_blk h1
  · exact h2.lt
  · exact lt_of_blk (h3 k hk)
theorem PoolAt.keep {w w' : World} {pb : Nat} {S T : Nat → Prop} {V : PoolV} (h : PoolAt w pb S V) (k : Keep w w' T) (hd : ∀ b, S b → ¬ T b) : PoolAt w' pb S V := by
  obtain ⟨mf, xa, fs, h1, h2, h3, h4, h5, h6⟩ := h
  refine ⟨mf, xa, fs, k.get h1 (hd _ ((h6 _).2 (.inl rfl))), h2.keep k (hd _ ((h6 _).2 (.inr (.inl rfl)))), ?_, h4, h5, h6⟩
  intro x hx
  exact (h3 x hx).keep k (fun b hb => hd b ((h6 b).2 (.inr (.inr ⟨x, hx, hb⟩))))
theorem PoolAt.lt {w : World} {pb : Nat} {S : Nat → Prop} {V : PoolV} (h : PoolAt w pb S V) {b : Nat} (hb : S b) : b < w.heap.size := by
  obtain ⟨mf, xa, fs, h1, h2, h3, h4, h5, h6⟩ := h
  rcases (h6 b).1 hb with rfl | rfl | ⟨x, hx, hb⟩
  · exact lt_of_blk h1
  · exact h2.lt
  · exact (h3 x hx).lt hb
theorem aget_map {α : Type} (L : List (Int × α)) (g : Int → α → Value) (k : Int) : aget (L.map fun x => (x.1, g x.1 x.2)) k = (aget L k).map (g k) := by
  induction L with
  | nil => rfl
  | cons x r ih =>
    obtain ⟨a, v⟩ := x
    simp only [List.map_cons, aget]
    split
    · rename_i h; subst h; rfl
    · exact ih
theorem aget_mem {α : Type} {L : List (Int × α)} {k : Int} {v : α} (h : aget L k = some v) : (k, v) ∈ L := by
  induction L with
  | nil => simp [aget] at h
  | cons x r ih =>
    obtain ⟨a, u⟩ := x
    simp only [aget] at h
    split at h
    · rename_i e; subst e; simp at h; subst h; simp
    · exact List.mem_cons_of_mem _ (ih h)
theorem size_c {w : World} {pb : Nat} {S : Nat → Prop} {V : PoolV} (h : PoolAt w pb S V) (f : Int) :
    Calls Tryz.prog 57 #[ptr pb, .int .i64 f] w fun e w' => e = .returned (.int .i64 (V.size f)) ∧ w = w' := by
  obtain ⟨mf, xa, fs, h1, h2, h3, h4, h5, h6⟩ := h
  have c1 : w.cell? ⟨pb, 1, none⟩ = some (.map (some mf)) := by rw [cell_blk h1]; rfl
  have l := lookup_run (P := Tryz.prog) kFiles tFiles zFile h2 f false
  simp only [Bool.false_eq_true, if_false, aget_map V.files (fun k _ => ptr (xa k)), kInt] at l
  unfold PoolV.size
  cases hg : aget V.files f with
  | none =>
    rw [hg] at l
    simp only [Option.map_none, Option.getD_none] at l
    clear h1 h2 h3 h4 h5 h6 hg
    go_enter Tryz.func57, Tryz.ntmps57
    unfold ptr
    go_wp2
    go_ret
    exact ⟨rfl, rfl⟩
  | some F =>
    rw [hg] at l
    simp only [Option.map_some, Option.getD_some] at l
    obtain ⟨hok, bm, ad, g1, g2, g3, g4, g5⟩ := h3 _ (aget_mem hg)
    have c2 : w.cell? ⟨xa f, 0, none⟩ = some (.int .i64 F.size) := by rw [cell_blk g1]; rfl
    clear h1 h2 h3 h4 h5 h6 hg g1 g2 g3 g4 g5 hok
    unfold ptr at *
    go_enter Tryz.func57, Tryz.ntmps57
    go_wp2
    go_ret
    exact ⟨rfl, rfl⟩
end Go.Proofs.YtoanccechefclaaGreatDoor
namespace Go.Proofs.YtoanccechefclaaGreatDoor
open Go Go.RowKit
set_option maxRecDepth 100000
theorem mem_aset {α : Type} {L : List (Int × α)} {f : Int} {v : α} {x : Int × α} (hn : (L.map Prod.fst).Nodup) (h : x ∈ aset L f v) : x = (f, v) ∨ (x ∈ L ∧ x.1 ≠ f) := by
  induction L with
  | nil => simp [aset] at h; exact .inl h
  | cons y r ih =>
    obtain ⟨a, u⟩ := y
    simp only [List.map_cons, List.nodup_cons] at hn
    simp only [aset] at h
    by_cases ha : a = f
    · rw [if_pos ha] at h
      subst ha
      rcases List.mem_cons.1 h with h | h
      · exact .inl h
      · refine .inr ⟨List.mem_cons_of_mem _ h, fun e => hn.1 ?_⟩
        exact e ▸ List.mem_map_of_mem h
    · rw [if_neg ha] at h
      rcases List.mem_cons.1 h with h | h
      · exact .inr ⟨by simp [h], by rw [h]; exact ha⟩
      · rcases ih hn.2 h with q | q
        · exact .inl q
        · exact .inr ⟨List.mem_cons_of_mem _ q.1, q.2⟩
theorem mem_adel {α : Type} {L : List (Int × α)} {f : Int} {x : Int × α} (hn : (L.map Prod.fst).Nodup) (h : x ∈ adel L f) : x ∈ L ∧ x.1 ≠ f := by
  induction L with
  | nil => simp [adel] at h
  | cons y r ih =>
    obtain ⟨a, u⟩ := y
    simp only [List.map_cons, List.nodup_cons] at hn
    simp only [adel] at h
    by_cases ha : a = f
    · rw [if_pos ha] at h
      subst ha
      exact ⟨List.mem_cons_of_mem _ h, fun e => hn.1 (e ▸ List.mem_map_of_mem h)⟩
    · rw [if_neg ha] at h
      rcases List.mem_cons.1 h with h | h
      · exact ⟨by simp [h], by rw [h]; exact ha⟩
      · exact ⟨List.mem_cons_of_mem _ (ih hn.2 h).1, (ih hn.2 h).2⟩
theorem adel_map {α : Type} (L : List (Int × α)) (g : Int → Value) (f : Int) : (adel L f).map (fun x => (x.1, g x.1)) = adel (L.map (fun x => (x.1, g x.1))) f := by
  induction L with
  | nil => rfl
  | cons x r ih =>
    obtain ⟨a, u⟩ := x
    simp only [adel, List.map_cons]
    split
    · rfl
    · rw [List.map_cons, ih]
theorem new_c (w : World) (n : Int) (h0 : 0 ≤ n) (h1 : n ≤ 256) :
    Calls Tryz.prog 73 #[.int .i64 n] w fun e w' => ∃ pb S, e = .returned (.tuple #[ptr pb, .int .i64 0]) ∧ PoolAt w' pb S ⟨n, 0, []⟩ ∧ Turn w (fun _ => False) w' S := by
  have hmm := @run_makeMap Tryz.prog
  go_enter Tryz.func73, Tryz.ntmps73
  go_wp2
  go_ret2
  refine ⟨w.heap.size + 1, fun b => b = w.heap.size + 1 ∨ b = w.heap.size, rfl, ⟨w.heap.size, fun _ => 0, fun _ _ => False, ?_, ?_, by simp, by simp, by simp, by simp⟩, ⟨?_, ?_⟩⟩
  · have := heap_alloc_eq (w.alloc (.map #[] 0)) (.cells #[.int .i64 n, .map (some w.heap.size), .int .i64 0] 172)
    simpa using this
  · refine MapAt.made ?_
    have h := heap_alloc_eq w (.map #[] 0)
    exact (Keep.alloc (w.alloc (.map #[] 0)) _ (fun _ => False)).get h (fun q => q)
  · exact (Keep.alloc w (.map #[] 0) _).trans (Keep.alloc _ _ (fun _ => False)) (fun b q => .inl q)
  · rintro b (h | h) <;> subst h <;> right <;> omega
def cnt (F : FileV) (a : Int) (j : Nat) : Nat := (((List.range j).map fun (i : Nat) => a + i).filter (fun k => !decide (k ∈ F.keys))).length
end Go.Proofs.YtoanccechefclaaGreatDoor
namespace Go.Proofs.YtoanccechefclaaGreatDoor
open Go Go.RowKit
set_option maxRecDepth 100000
theorem rowOf_get (f : Int → Int) (k : Int) (i : Nat) (h : i < 16) : (rowOf f k)[i]? = some (.int .u8 (f (16 * k + i))) := by
  simp [rowOf, h]
theorem rowOf_set (F : FileV) (p c : Int) (i : Nat) (k : Int) (hi : i < 16) (hp : p = 16 * k + i) : (rowOf F.byte k).setIfInBounds i (.int .u8 c) = rowOf (F.setByte p c).byte k := by
  apply Array.ext_getElem?
  intro j
  by_cases hj : j < 16
  · rw [rowOf_get _ _ _ hj, Array.getElem?_setIfInBounds]
    by_cases e : i = j
    · subst e
      simp [rowOf, hj, FileV.setByte, hp]
    · rw [if_neg e, rowOf_get _ _ _ hj]
      simp only [FileV.setByte]
      rw [if_neg (by omega)]
  · rw [Array.getElem?_eq_none (by simp [rowOf]; omega), Array.getElem?_eq_none (by simp [rowOf]; omega)]
theorem rowOf_same {f g : Int → Int} {k : Int} (h : ∀ i : Nat, i < 16 → f (16 * k + i) = g (16 * k + i)) : rowOf f k = rowOf g k := by
  apply Array.ext_getElem?
  intro j
  by_cases hj : j < 16
  · rw [rowOf_get _ _ _ hj, rowOf_get _ _ _ hj, h j hj]
  · rw [Array.getElem?_eq_none (by simp [rowOf]; omega), Array.getElem?_eq_none (by simp [rowOf]; omega)]
theorem FileAt.set {w w' : World} {xb bm : Nat} {ad : Int → Nat} {S : Nat → Prop} {F : FileV} (hok : F.ok)
    (g1 : w.heap[xb]? = some (.cells #[.int .i64 F.size, .map (some bm)] 175 (0, 0)))
    (g2 : MapAt w bm kInt (F.keys.map fun k => (k, ptr (ad k))))
    (g3 : ∀ k ∈ F.keys, w.heap[ad k]? = some (.cells (rowOf F.byte k) 290 (0, 0)))
    (g4 : ∀ k ∈ F.keys, ∀ j ∈ F.keys, ad k = ad j → k = j)
    (g5 : ∀ b, S b ↔ b = xb ∨ b = bm ∨ ∃ k ∈ F.keys, b = ad k)
    (hne : ∀ k ∈ F.keys, ad k ≠ xb ∧ ad k ≠ bm)
    {p c : Int} (hk : p / 16 ∈ F.keys) (hc : 0 ≤ c ∧ c < 256) {off : Nat} (hoff : (off : Int) = p % 16)
    (hb : w'.heap[ad (p / 16)]? = some (.cells ((rowOf F.byte (p / 16)).setIfInBounds off (.int .u8 c)) 290 (0, 0)))
    (k : Keep w w' (fun b => b = ad (p / 16))) : FileAt w' xb S (F.setByte p c) := by
  refine ⟨FileV.setByte_ok hok hk hc, bm, ad, k.get g1 (fun e => (hne _ hk).1 e.symm), g2.keep k (fun e => (hne _ hk).2 e.symm), ?_, g4, g5⟩
  intro j hj
  by_cases e : j = p / 16
  · subst e
    rw [hb, rowOf_set F p c off (p / 16) (by omega) (by omega)]
  · rw [k.get (g3 j hj) (fun q => e (g4 j hj _ hk q))]
    congr 2
    refine rowOf_same (fun i hi => ?_)
    simp only [FileV.setByte]
    rw [if_neg (by omega)]
end Go.Proofs.YtoanccechefclaaGreatDoor
namespace Go.Proofs.YtoanccechefclaaGreatDoor
open Go Go.RowKit
set_option maxRecDepth 100000
theorem pool_look {w : World} {pb mf : Nat} {V : PoolV} {xa : Int → Nat} (h2 : MapAt w mf kInt (V.files.map fun x => (x.1, ptr (xa x.1)))) (f : Int) :
    (Instr.lookup 170 (.map (some mf)) (.int .i64 f) false).run Tryz.prog w = .ok (match aget V.files f with | none => .pointer none | some _ => ptr (xa f)) w := by
  have l := lookup_run (P := Tryz.prog) kFiles tFiles zFile h2 f false
  simp only [Bool.false_eq_true, if_false, aget_map V.files (fun k _ => ptr (xa k)), kInt] at l
  rw [l]
  cases aget V.files f <;> rfl
end Go.Proofs.YtoanccechefclaaGreatDoor
namespace Go.Proofs.YtoanccechefclaaGreatDoor
open Go Go.RowKit
set_option maxRecDepth 100000
def BytesNew (w : World) (v : Value) (l : List Int) (B : Nat) : Prop :=
  (l = [] ∧ v = .slice none 0 0) ∨ ∃ b, B ≤ b ∧ v = .slice (some ⟨b, 0, none⟩) l.length l.length ∧ w.heap[b]? = some (.cells (l.map (Value.int .u8)).toArray 5 (0, 0))
def halfRead (F : FileV) (p : Int) (m j : Nat) : Array Value := ((List.range m).map fun i => Value.int .u8 (if i < j then F.byte (p + i) else 0)).toArray
end Go.Proofs.YtoanccechefclaaGreatDoor
namespace Go.Proofs.YtoanccechefclaaGreatDoor
open Go Go.RowKit
set_option maxRecDepth 100000
theorem keys_len {F : FileV} (h : F.ok) : F.keys.length ≤ 64 := by
  have hp : F.keys.Perm ((span 0 63).filter fun k => decide (k ∈ F.keys)) := by
    rw [List.perm_ext_iff_of_nodup h.2.2.1 ((span_nodup _ _).filter _)]
    intro x
    rw [List.mem_filter, mem_span]
    constructor
    · intro hx; have := h.2.2.2.1 x hx; exact ⟨by omega, by simpa using hx⟩
    · intro hx; simpa using hx.2
  have h1 := hp.length_eq
  have h2 := List.length_filter_le (fun k => decide (k ∈ F.keys)) (span 0 63)
  have h3 : (span 0 63).length = 64 := by simp [span]
  omega
theorem pb_ne {w : World} {pb mf : Nat} {c : Array Value} {T : TypeId} {fr : Nat × Nat} {L : List (Int × Value)} (h1 : w.heap[pb]? = some (.cells c T fr)) (h2 : MapAt w mf kInt L) : mf ≠ pb := by
  rintro rfl
  obtain ⟨B, cl, hB⟩ := h2
  have := hB.2.1
  rw [h1] at this
  simp at this
set_option maxHeartbeats 1000000 in
theorem drop_ok {w : World} {pb : Nat} {S : Nat → Prop} {V : PoolV} (h : PoolAt w pb S V) (f : Int) {F : FileV} (hg : aget V.files f = some F) (q0 : 0 ≤ V.left) (q1 : V.left ≤ 256) :
    Calls Tryz.prog 133 #[ptr pb, .int .i64 f] w fun r w' => r = .returned (.int .i64 0) ∧
      ∃ S', PoolAt w' pb S' { V with left := V.left + F.keys.length, files := adel V.files f } ∧ Turn w S w' S' := by
  obtain ⟨mf, xa, fs, h1, h2, h3, h4, h5, h6⟩ := h
  have c1 : w.cell? ⟨pb, 1, none⟩ = some (.map (some mf)) := by rw [cell_blk h1]; rfl
  have c0 : w.cell? ⟨pb, 0, none⟩ = some (.int .i64 V.left) := by rw [cell_blk h1]; rfl
  have f0 : w.frozen? ⟨pb, 0, none⟩ = false := free_blk h1 0
  have lk := pool_look (pb := pb) h2 f
  rw [hg] at lk
  have hF := h3 _ (aget_mem hg)
  obtain ⟨hok, bm, ad, g1, g2, g3, g4, g5⟩ := hF
  have cx : w.cell? ⟨xa f, 1, none⟩ = some (.map (some bm)) := by rw [cell_blk g1]; rfl
  have hlen := len_run (P := Tryz.prog) tBlocks g2.drew 3
  simp only [List.length_map] at hlen
  have hkl : F.keys.length ≤ 64 := keys_len hok
  have H := Lib.hid (And.intro h1 (And.intro h2 (And.intro h3 (And.intro h4 (And.intro h5 h6)))))
  have Hg := Lib.hid hg
  clear h1 h2 h3 h4 h5 h6 hg g1 g2 g3 g4 g5 hok
  unfold ptr at *
  go_enter Tryz.func133, Tryz.ntmps133
  go_wp2
  go_region
  go_wp2_with (
    at_delete
    obtain ⟨B, cl, hB⟩ := H.out.2.1.keep ((Keep.setCell w ⟨pb, 0, none⟩ (.int .i64 (V.left + (F.keys.length : Int)))).trans (Keep.drew _ (fun b => b = pb)) (fun b q => .inl q)) (pb_ne H.out.1 H.out.2.1)
    refine law_delete rfl _ _ _ _ rfl kFiles tFiles rfl hB f rfl ?_
    intro w1 B' hB1 hB2 hk1
    have HB := Lib.hid (And.intro hB1 hk1)
    clear hB hB1 hB2 hk1)
  go_ret
  obtain ⟨hB1, hk1⟩ := HB.out
  obtain ⟨h1, h2, h3, h4, h5, h6⟩ := H.out
  have hnd : (V.files.map Prod.fst).Nodup := by
    have := h2.nodup
    simpa [List.map_map, Function.comp_def] using this
  have hk0 : Keep w (w.setCell ⟨pb, 0, none⟩ (.int .i64 (V.left + (F.keys.length : Int)))).drew (fun b => b = pb) := (Keep.setCell _ _ _).trans (Keep.drew _ (fun b => b = pb)) (fun b q => .inl q)
  have hne := pb_ne h1 h2
  have hk : Keep w w1 (fun b => b = pb ∨ b = mf) := (hk0.mono (fun b q => .inl q)).trans hk1 (fun b q => .inl (.inr q))
  refine ⟨rfl, fun b => b = pb ∨ b = mf ∨ ∃ x ∈ adel V.files f, fs x.1 b, ⟨mf, xa, fs, ?_, ?_, ?_, ?_, ?_, fun b => Iff.rfl⟩, ⟨hk.mono ?_, ?_⟩⟩
  · refine hk1.get ?_ (fun e => hne e.symm)
    exact heap_setCell_eq _ h1
  · have e : (adel V.files f).map (fun x => (x.1, ptr (xa x.1))) = adel (V.files.map fun x => (x.1, ptr (xa x.1))) f := adel_map _ (fun k => ptr (xa k)) f
    show MapAt w1 mf kInt ((adel V.files f).map fun x => (x.1, ptr (xa x.1)))
    rw [e]
    exact ⟨B', cl, hB1⟩
  · intro x hx
    have hx' := mem_adel hnd hx
    refine (h3 x hx'.1).keep hk ?_
    rintro b q (rfl | rfl)
    · exact (h4 x hx'.1).1 q
    · exact (h4 x hx'.1).2 q
  · exact fun x hx => h4 x (mem_adel hnd hx).1
  · exact fun x hx y hy => h5 x (mem_adel hnd hx).1 y (mem_adel hnd hy).1
  · rintro b (rfl | rfl)
    · exact (h6 _).2 (.inl rfl)
    · exact (h6 _).2 (.inr (.inl rfl))
  · rintro b (q | q | ⟨x, hx, q⟩)
    · exact .inl ((h6 _).2 (.inl q))
    · exact .inl ((h6 _).2 (.inr (.inl q)))
    · exact .inl ((h6 _).2 (.inr (.inr ⟨x, (mem_adel hnd hx).1, q⟩)))
theorem drop_none {w : World} {pb : Nat} {S : Nat → Prop} {V : PoolV} (h : PoolAt w pb S V) (f : Int) (hg : aget V.files f = none) :
    Calls Tryz.prog 133 #[ptr pb, .int .i64 f] w fun r w' => r = .returned (.int .i64 1) ∧ w = w' := by
  obtain ⟨mf, xa, fs, h1, h2, h3, h4, h5, h6⟩ := h
  have c1 : w.cell? ⟨pb, 1, none⟩ = some (.map (some mf)) := by rw [cell_blk h1]; rfl
  have lk := pool_look (pb := pb) h2 f
  rw [hg] at lk
  clear h1 h2 h3 h4 h5 h6 hg
  unfold ptr at *
  go_enter Tryz.func133, Tryz.ntmps133
  go_wp2
  go_ret
  exact ⟨rfl, rfl⟩
set_option maxHeartbeats 1000000 in
theorem file_c {w : World} {pb : Nat} {S : Nat → Prop} {V : PoolV} (h : PoolAt w pb S V) (q0 : 0 ≤ V.made) (q1 : V.made ≤ 1073741824) (q2 : ∀ x ∈ V.files, x.1 ≤ V.made) :
    Calls Tryz.prog 110 #[ptr pb] w fun r w' => r = .returned (.int .i64 (V.made + 1)) ∧ ∃ S', PoolAt w' pb S' V.file ∧ Turn w S w' S' := by
  obtain ⟨mf, xa, fs, h1, h2, h3, h4, h5, h6⟩ := h
  have c1 : w.cell? ⟨pb, 1, none⟩ = some (.map (some mf)) := by rw [cell_blk h1]; rfl
  have c2 : w.cell? ⟨pb, 2, none⟩ = some (.int .i64 V.made) := by rw [cell_blk h1]; rfl
  have f2 : w.frozen? ⟨pb, 2, none⟩ = false := free_blk h1 2
  have hmm := @run_makeMap Tryz.prog
  have hpl := lt_of_blk h1
  obtain ⟨w1, hup, hm1, hk1⟩ := update_run (P := Tryz.prog) (w := (((w.setCell ⟨pb, 2, none⟩ (.int .i64 (V.made + 1))).alloc (.map #[] 0)).alloc (.cells #[.int .i64 0, .map (some w.heap.size)] 175)).drew)
    kFiles tFiles (((h2.keep (Keep.setCell w ⟨pb, 2, none⟩ _) (pb_ne h1 h2)).keep (Keep.alloc _ _ (fun _ => False)) (fun q => q)).keep (Keep.alloc _ _ (fun _ => False)) (fun q => q)).drew (V.made + 1) (ptr (w.heap.size + 1))
  unfold kInt at hup
  have hne := pb_ne h1 h2
  have hmf := h2.lt
  have hpb1 : w1.heap[pb]? = some (.cells #[.int .i64 V.left, .map (some mf), .int .i64 (V.made + 1)] 172 (0, 0)) := by
    refine hk1.get ?_ (fun e => hne e.symm)
    refine (Keep.drew _ (fun _ => False)).get ?_ (fun q => q)
    refine (Keep.alloc _ _ (fun _ => False)).get ?_ (fun q => q)
    refine (Keep.alloc _ _ (fun _ => False)).get ?_ (fun q => q)
    exact heap_setCell_eq _ h1
  have hx1 : w1.heap[w.heap.size + 1]? = some (.cells #[.int .i64 0, .map (some w.heap.size)] 175 (0, 0)) := by
    refine hk1.get ?_ (by omega)
    refine (Keep.drew _ (fun _ => False)).get ?_ (fun q => q)
    have := heap_alloc_eq ((w.setCell ⟨pb, 2, none⟩ (.int .i64 (V.made + 1))).alloc (.map #[] 0)) (.cells #[.int .i64 0, .map (some w.heap.size)] 175)
    simpa using this
  have hb1 : w1.heap[w.heap.size]? = some (.map #[] 0) := by
    refine hk1.get ?_ (by omega)
    refine (Keep.drew _ (fun _ => False)).get ?_ (fun q => q)
    refine (Keep.alloc _ _ (fun _ => False)).get ?_ (fun q => q)
    have := heap_alloc_eq (w.setCell ⟨pb, 2, none⟩ (.int .i64 (V.made + 1))) (.map #[] 0)
    simpa using this
  have c3 : w1.cell? ⟨pb, 2, none⟩ = some (.int .i64 (V.made + 1)) := by rw [cell_blk hpb1]; rfl
  have hk : Keep w w1 (fun b => b = pb ∨ b = mf) :=
    ((((Keep.setCell w ⟨pb, 2, none⟩ (.int .i64 (V.made + 1))).mono (T := fun b => b = pb ∨ b = mf) (fun b q => .inl q)).trans (Keep.alloc _ (.map #[] 0) (fun _ => False)) (fun b q => q.elim)).trans ((Keep.alloc _ _ (fun _ => False)).trans (Keep.drew _ (fun _ => False)) (fun b q => q.elim)) (fun b q => q.elim)).trans hk1 (fun b q => .inl (.inr q))
  have H := Lib.hid (And.intro h1 (And.intro h2 (And.intro h3 (And.intro h4 (And.intro h5 (And.intro h6 (And.intro hm1 (And.intro hk1 (And.intro hpb1 (And.intro hx1 (And.intro hb1 hk)))))))))))
  have Hne := Lib.hid hne
  have Q2 := Lib.hid q2
  clear h1 h2 h3 h4 h5 h6 hm1 hk1 hpb1 hx1 hb1 hk hne q2
  unfold ptr at *
  go_enter Tryz.func110, Tryz.ntmps110
  go_wp2
  go_region
  go_wp2
  go_ret
  obtain ⟨h1, h2, h3, h4, h5, h6, hm1, hk1, hpb1, hx1, hb1, hk⟩ := H.out
  have hne := Hne.out
  have hnew : V.made + 1 ∉ V.files.map Prod.fst := by
    intro hq
    obtain ⟨x, hx, e⟩ := List.mem_map.1 hq
    have := Q2.out x hx
    omega
  have hfile : V.file = { V with made := V.made + 1, files := V.files ++ [(V.made + 1, FileV.empty)] } := by
    unfold PoolV.file
    rw [aset_new _ _ _ hnew]
  have hxk : ∀ x ∈ V.files, x.1 ≠ V.made + 1 := fun x hx => by have := Q2.out x hx; omega
  have hltx : ∀ x ∈ V.files, ∀ b, fs x.1 b → b < w.heap.size := fun x hx b q => (h3 x hx).lt q
  refine ⟨rfl, fun b => b = pb ∨ b = mf ∨ ∃ x ∈ V.files ++ [(V.made + 1, FileV.empty)], (if x.1 = V.made + 1 then (b = w.heap.size + 1 ∨ b = w.heap.size) else fs x.1 b), ?_, ⟨hk.mono ?_, ?_⟩⟩
  · rw [hfile]
    refine ⟨mf, fun k => if k = V.made + 1 then w.heap.size + 1 else xa k, fun k b => if k = V.made + 1 then (b = w.heap.size + 1 ∨ b = w.heap.size) else fs k b, hpb1, ?_, ?_, ?_, ?_, fun b => Iff.rfl⟩
    · have e : (V.files ++ [(V.made + 1, FileV.empty)]).map (fun x => (x.1, ptr (if x.1 = V.made + 1 then w.heap.size + 1 else xa x.1))) = aset (V.files.map fun x => (x.1, ptr (xa x.1))) (V.made + 1) (ptr (w.heap.size + 1)) := by
        rw [aset_new _ _ _ (by simpa [List.map_map, Function.comp_def] using hnew), List.map_append]
        congr 1
        · exact List.map_congr_left (fun x hx => by rw [if_neg (hxk x hx)])
        · simp
      show MapAt w1 mf kInt ((V.files ++ [(V.made + 1, FileV.empty)]).map fun x => (x.1, ptr (if x.1 = V.made + 1 then w.heap.size + 1 else xa x.1)))
      rw [e]; exact hm1
    · intro x hx
      rcases List.mem_append.1 hx with hx | hx
      · simp only [hxk x hx, if_false]
        refine (h3 x hx).keep hk ?_
        rintro b q (rfl | rfl)
        · exact (h4 x hx).1 q
        · exact (h4 x hx).2 q
      · simp only [List.mem_singleton] at hx
        subst hx
        simp only [if_true]
        exact ⟨FileV.empty_ok, w.heap.size, fun _ => 0, hx1, by simpa [FileV.empty] using MapAt.made hb1, by simp [FileV.empty], by simp [FileV.empty], fun b => by simp [FileV.empty]⟩
    · intro x hx
      rcases List.mem_append.1 hx with hx | hx
      · simp only [hxk x hx, if_false]; exact h4 x hx
      · simp only [List.mem_singleton] at hx
        subst hx
        simp only [if_true]
        omega
    · intro x hx y hy hxy b
      rcases List.mem_append.1 hx with hx | hx <;> rcases List.mem_append.1 hy with hy | hy
      · simp only [hxk x hx, hxk y hy, if_false]; exact h5 x hx y hy hxy b
      · simp only [List.mem_singleton] at hy
        subst hy
        simp only [hxk x hx, if_false, if_true]
        intro q r
        have := hltx x hx b q
        omega
      · simp only [List.mem_singleton] at hx
        subst hx
        simp only [hxk y hy, if_false, if_true]
        intro q r
        have := hltx y hy b r
        omega
      · simp only [List.mem_singleton] at hx hy
        subst hx; subst hy
        exact absurd rfl hxy
  · rintro b (rfl | rfl)
    · exact (h6 _).2 (.inl rfl)
    · exact (h6 _).2 (.inr (.inl rfl))
  · rintro b (q | q | ⟨x, hx, q⟩)
    · exact .inl ((h6 _).2 (.inl q))
    · exact .inl ((h6 _).2 (.inr (.inl q)))
    · rcases List.mem_append.1 hx with hx | hx
      · simp only [hxk x hx, if_false] at q
        exact .inl ((h6 _).2 (.inr (.inr ⟨x, hx, q⟩)))
      · simp only [List.mem_singleton] at hx
        subst hx
        simp only [if_true] at q
        right; omega
end Go.Proofs.YtoanccechefclaaGreatDoor
namespace Go.Proofs.YtoanccechefclaaGreatDoor
open Go Go.RowKit
set_option maxRecDepth 100000
def FileV.cutD (F : FileV) (s : Int) (D : List Int) : FileV :=
  { size := F.size, keys := F.keys.filter (fun k => !(decide (k ∈ D) && decide (s ≤ k * 16))), byte := fun p => if p / 16 ∈ D ∧ s ≤ p then 0 else F.byte p }
structure CutAt (w wr : World) (pb mf xb bm it : Nat) (fsf : Nat → Prop) (ad : Int → Nat) (V : PoolV) (F : FileV) (s : Int) (D : List Int) (B : List Nat) (c : Nat) : Prop where
  sub : ∀ k ∈ D, k ∈ F.keys
  pool : wr.heap[pb]? = some (.cells #[.int .i64 (V.left + (F.keys.length - (F.cutD s D).keys.length)), .map (some mf), .int .i64 V.made] 172 (0, 0))
  file : wr.heap[xb]? = some (.cells #[.int .i64 F.size, .map (some bm)] 175 (0, 0))
  map : MapAtB wr bm kInt ((F.cutD s D).keys.map fun k => (k, ptr (ad k))) B c
  rows : ∀ k ∈ (F.cutD s D).keys, wr.heap[ad k]? = some (.cells (rowOf (F.cutD s D).byte k) 290 (0, 0))
  iter : IterAt wr it bm ((F.cutD s D).keys.map fun k => (k, ptr (ad k))) B D
  keep : Keep w wr (fun b => b = pb ∨ fsf b)
end Go.Proofs.YtoanccechefclaaGreatDoor
namespace Go.Proofs.YtoanccechefclaaGreatDoor
open Go Go.RowKit
set_option maxRecDepth 100000
def PoolV.total (V : PoolV) : Int := (V.files.map fun x => (x.2.keys.length : Int)).sum
structure PoolV.ok (V : PoolV) (n : Int) : Prop where
  left : 0 ≤ V.left
  sum : V.left + V.total = n
  most : n ≤ 256
  made0 : 0 ≤ V.made
  keys : ∀ x ∈ V.files, 1 ≤ x.1 ∧ x.1 ≤ V.made
  nodup : (V.files.map Prod.fst).Nodup
  files : ∀ x ∈ V.files, x.2.ok
theorem total_nonneg (L : List (Int × FileV)) : 0 ≤ (L.map fun x => (x.2.keys.length : Int)).sum := by
  induction L with
  | nil => simp
  | cons x r ih => simp only [List.map_cons, List.sum_cons]; omega
theorem PoolV.ok.left_le {V : PoolV} {n : Int} (h : V.ok n) : V.left ≤ 256 := by
  have h1 := h.sum
  have h2 := h.most
  have h3 : 0 ≤ V.total := total_nonneg V.files
  omega
theorem sum_aset (L : List (Int × FileV)) (f : Int) (F F' : FileV) (h : aget L f = some F) :
    ((aset L f F').map fun x => (x.2.keys.length : Int)).sum = (L.map fun x => (x.2.keys.length : Int)).sum - F.keys.length + F'.keys.length := by
  induction L with
  | nil => simp [aget] at h
  | cons x r ih =>
    obtain ⟨a, u⟩ := x
    simp only [aget] at h
    by_cases ha : a = f
    · rw [if_pos ha] at h
      simp at h; subst h
      simp only [aset, ha, if_true, List.map_cons, List.sum_cons]
      omega
    · rw [if_neg ha] at h
      simp only [aset, ha, if_false, List.map_cons, List.sum_cons, ih h]
      omega
theorem sum_adel (L : List (Int × FileV)) (f : Int) (F : FileV) (h : aget L f = some F) :
    ((adel L f).map fun x => (x.2.keys.length : Int)).sum = (L.map fun x => (x.2.keys.length : Int)).sum - F.keys.length := by
  induction L with
  | nil => simp [aget] at h
  | cons x r ih =>
    obtain ⟨a, u⟩ := x
    simp only [aget] at h
    by_cases ha : a = f
    · rw [if_pos ha] at h
      simp at h; subst h
      simp only [adel, ha, if_true, List.map_cons, List.sum_cons]
      omega
    · rw [if_neg ha] at h
      simp only [adel, ha, if_false, List.map_cons, List.sum_cons, ih h]
      omega
theorem PoolV.ok.aset {V : PoolV} {n : Int} (h : V.ok n) {f l : Int} {F F' : FileV} (hg : aget V.files f = some F) (hF : F'.ok) (hl : l = V.left + F.keys.length - F'.keys.length) (h0 : 0 ≤ l) : PoolV.ok { V with left := l, files := aset V.files f F' } n := by
  have hm := aget_mem hg
  have hs := sum_aset V.files f F F' hg
  refine ⟨h0, ?_, h.most, h.made0, ?_, ?_, ?_⟩
  · have := h.sum
    unfold PoolV.total at *
    show l + _ = n
    rw [hs]; omega
  · intro x hx
    rcases mem_aset h.nodup hx with rfl | ⟨hx, _⟩
    · exact h.keys (f, F) hm
    · exact h.keys _ hx
  · show ((Go.Proofs.YtoanccechefclaaGreatDoor.aset V.files f F').map Prod.fst).Nodup
    rw [aset_fst _ _ _ (List.mem_map_of_mem (f := Prod.fst) hm)]; exact h.nodup
  · intro x hx
    rcases mem_aset h.nodup hx with rfl | ⟨hx, _⟩
    · exact hF
    · exact h.files _ hx
theorem PoolV.new_ok {n : Int} (h0 : 0 ≤ n) (h1 : n ≤ 256) : PoolV.ok ⟨n, 0, []⟩ n :=
  ⟨h0, by simp [PoolV.total], h1, by simp, by simp, by simp, by simp⟩
theorem PoolV.ok.file {V : PoolV} {n : Int} (h : V.ok n) : V.file.ok n := by
  have hnew : V.made + 1 ∉ V.files.map Prod.fst := by
    intro hq
    obtain ⟨x, hx, e⟩ := List.mem_map.1 hq
    have := (h.keys x hx).2
    omega
  have hf : V.file = { V with made := V.made + 1, files := V.files ++ [(V.made + 1, FileV.empty)] } := by
    unfold PoolV.file; rw [aset_new _ _ _ hnew]
  rw [hf]
  have h1 := h.made0
  refine ⟨h.left, ?_, h.most, by show 0 ≤ V.made + 1; omega, ?_, ?_, ?_⟩
  · have := h.sum
    unfold PoolV.total at *
    simp [FileV.empty]; omega
  · intro x hx
    rcases List.mem_append.1 hx with hx | hx
    · have := h.keys x hx
      exact ⟨this.1, by show x.1 ≤ V.made + 1; omega⟩
    · simp at hx; subst hx; exact ⟨by show 1 ≤ V.made + 1; omega, by show V.made + 1 ≤ V.made + 1; omega⟩
  · simp only [List.map_append, List.map_cons, List.map_nil]
    exact List.nodup_append.2 ⟨h.nodup, by simp, fun a ha b hb e => by simp at hb; subst hb; exact hnew (e ▸ ha)⟩
  · intro x hx
    rcases List.mem_append.1 hx with hx | hx
    · exact h.files x hx
    · simp at hx; subst hx; exact FileV.empty_ok
theorem PoolV.ok.drop {V : PoolV} {n : Int} (h : V.ok n) (f : Int) : (V.drop f).1.ok n := by
  unfold PoolV.drop
  cases hg : aget V.files f with
  | none => exact h
  | some F =>
    have hs := sum_adel V.files f F hg
    refine ⟨by have := h.left; show 0 ≤ V.left + _; omega, ?_, h.most, h.made0, fun x hx => h.keys x (mem_adel h.nodup hx).1, ?_, fun x hx => h.files x (mem_adel h.nodup hx).1⟩
    · have := h.sum
      unfold PoolV.total at *
      show V.left + _ + _ = n
      rw [hs]; omega
    · exact h.nodup.sublist ((adel_sub _ _).map _)
theorem FileV.cut_ok {F : FileV} (h : F.ok) {s : Int} (h0 : 0 ≤ s) (h1 : s ≤ 1024) : (F.cut s).ok := by
  refine ⟨h0, h1, h.2.2.1.filter _, fun k hk => h.2.2.2.1 k (List.mem_filter.1 hk).1, ?_, ?_⟩
  · intro p hp
    show (if p < s then F.byte p else 0) = 0
    split
    · rename_i hlt
      refine h.2.2.2.2.1 p (fun q => hp (List.mem_filter.2 ⟨q, ?_⟩))
      simp; omega
    · rfl
  · intro p
    show 0 ≤ (if p < s then F.byte p else 0) ∧ (if p < s then F.byte p else 0) < 256
    split
    · exact h.2.2.2.2.2 p
    · omega
theorem PoolV.ok.cut {V : PoolV} {n : Int} (h : V.ok n) (f s : Int) : (V.cut f s).1.ok n := by
  unfold PoolV.cut
  cases hg : aget V.files f with
  | none => exact h
  | some F =>
    show (if _ then _ else _ : PoolV × Int).1.ok n
    split
    · exact h
    · split
      · exact h
      · have hF := h.files _ (aget_mem hg)
        have hle := List.length_filter_le (fun k => decide (k * 16 < s)) F.keys
        have h0 := h.left
        refine h.aset hg (FileV.cut_ok hF (by omega) (by omega)) (by omega) ?_
        show 0 ≤ V.left + ((F.keys.length : Int) - (F.keys.filter fun k => decide (k * 16 < s)).length)
        omega
theorem drop_c {w : World} {pb : Nat} {S : Nat → Prop} {V : PoolV} {n : Int} (h : PoolAt w pb S V) (hV : V.ok n) (f : Int) :
    Calls Tryz.prog 133 #[ptr pb, .int .i64 f] w fun r w' => r = .returned (.int .i64 (V.drop f).2) ∧ ∃ S', PoolAt w' pb S' (V.drop f).1 ∧ Turn w S w' S' := by
  unfold PoolV.drop
  cases hg : aget V.files f with
  | none => exact (drop_none h f hg).mono fun r w' ⟨q, e⟩ => ⟨q, S, e ▸ h, e ▸ Keep.refl _ _, fun b q => .inl q⟩
  | some F => exact drop_ok h f hg hV.left hV.left_le
theorem file_cc {w : World} {pb : Nat} {S : Nat → Prop} {V : PoolV} {n : Int} (h : PoolAt w pb S V) (hV : V.ok n) (hm : V.made ≤ 1073741824) :
    Calls Tryz.prog 110 #[ptr pb] w fun r w' => r = .returned (.int .i64 (V.made + 1)) ∧ ∃ S', PoolAt w' pb S' V.file ∧ Turn w S w' S' :=
  file_c h hV.made0 hm (fun x hx => (hV.keys x hx).2)
end Go.Proofs.YtoanccechefclaaGreatDoor
