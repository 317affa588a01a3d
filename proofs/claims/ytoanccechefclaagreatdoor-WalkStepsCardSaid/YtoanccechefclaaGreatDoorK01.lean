/-
  Parts of the walk's proof: Heap, Laws. (joined by pack.py)
-/
import Derived.WalkKit
import Derived.WalkSpells
import Derived.Lib.Hide
import Derived.Maps.RangeWalk
import Derived.Maps.OwnSet
import Derived.Handy
import Derived.Laws.AppendOwn
import Derived.Laws.BytesArg
set_option linter.unusedSectionVars false
set_option linter.unusedSimpArgs false
set_option linter.unusedVariables false
namespace Go.Proofs.YtoanccechefclaaGreatDoor
open Go Go.RowKit
structure Keep (w w' : World) (S : Nat → Prop) : Prop where
  size : w.heap.size ≤ w'.heap.size
  block : ∀ b, b < w.heap.size → ¬ S b → w'.heap[b]? = w.heap[b]?
  os : w'.os = w.os
  tape : w'.tape = w.tape
  output : w'.output = w.output
theorem lt_of_blk {w : World} {b : Nat} {o : Obj} (h : w.heap[b]? = some o) : b < w.heap.size := lt_of_block h
theorem Keep.refl (w : World) (S : Nat → Prop) : Keep w w S := ⟨Nat.le_refl _, fun _ _ _ => rfl, rfl, rfl, rfl⟩
theorem Keep.mono {w w' : World} {S T : Nat → Prop} (h : Keep w w' S) (hs : ∀ b, S b → T b) : Keep w w' T :=
  ⟨h.size, fun b hb hn => h.block b hb (fun k => hn (hs b k)), h.os, h.tape, h.output⟩
theorem Keep.trans {w w1 w2 : World} {S T : Nat → Prop} (h : Keep w w1 S) (k : Keep w1 w2 T) (ht : ∀ b, T b → S b ∨ w.heap.size ≤ b) : Keep w w2 S :=
  ⟨Nat.le_trans h.size k.size, fun b hb hn => (k.block b (Nat.lt_of_lt_of_le hb h.size) (fun t => by
    rcases ht b t with q | q
    · exact hn q
    · omega)).trans (h.block b hb hn), k.os.trans h.os, k.tape.trans h.tape, k.output.trans h.output⟩
theorem Keep.get {w w' : World} {S : Nat → Prop} (h : Keep w w' S) {b : Nat} {o : Obj} (hb : w.heap[b]? = some o) (hn : ¬ S b) : w'.heap[b]? = some o :=
  (h.block b (lt_of_blk hb) hn).trans hb
theorem Keep.below {w w' : World} {S : Nat → Prop} (h : Keep w w' S) {B : Nat} (hB : B ≤ w.heap.size) (hs : ∀ b, S b → B ≤ b) : Below B w w' :=
  ⟨h.os, h.tape, h.output, h.size, fun b hb => h.block b (by omega) (fun s => by have := hs b s; omega)⟩
theorem Keep.of_below {w w' : World} {B : Nat} (h : Below B w w') : Keep w w' (fun b => B ≤ b) :=
  ⟨h.size, fun b _ hn => h.block b (by omega), h.os, h.tape, h.output⟩
theorem Keep.drew (w : World) (S : Nat → Prop) : Keep w w.drew S := ⟨Nat.le_refl _, fun _ _ _ => rfl, rfl, rfl, rfl⟩
theorem heap_setCell_ne (w : World) (a : Addr) (v : Value) {b : Nat} (h : b ≠ a.block) : (w.setCell a v).heap[b]? = w.heap[b]? := Below.heap_setCell w a v b h
theorem heap_setCell_eq {w : World} {b off : Nat} {c : Array Value} {t : TypeId} {fr : Nat × Nat} (v : Value) (h : w.heap[b]? = some (.cells c t fr)) :
    (w.setCell ⟨b, off, none⟩ v).heap[b]? = some (.cells (c.setIfInBounds off v) t fr) := by
  simp [World.setCell, Array.getElem?_modify, h]
theorem Keep.setCell (w : World) (a : Addr) (v : Value) : Keep w (w.setCell a v) (fun b => b = a.block) :=
  ⟨by simp, fun b _ hn => heap_setCell_ne w a v hn, rfl, rfl, rfl⟩
theorem Keep.alloc (w : World) (o : Obj) (S : Nat → Prop) : Keep w (w.alloc o) S :=
  ⟨by simp, fun b hb _ => Below.heap_alloc w o b hb, rfl, rfl, rfl⟩
theorem heap_alloc_eq (w : World) (o : Obj) : (w.alloc o).heap[w.heap.size]? = some o := by
  show (w.heap.push o)[w.heap.size]? = _
  simp
theorem cell_blk {w : World} {b : Nat} {c : Array Value} {t : TypeId} {fr : Nat × Nat} (h : w.heap[b]? = some (.cells c t fr)) (i : Nat) : w.cell? ⟨b, i, none⟩ = c[i]? := by
  simp [World.cell?, h]
theorem free_blk {w : World} {b : Nat} {c : Array Value} {t : TypeId} (h : w.heap[b]? = some (.cells c t (0, 0))) (i : Nat) : w.frozen? ⟨b, i, none⟩ = false := by
  simp [World.frozen?, h]
theorem Keep.cell {w w' : World} {S : Nat → Prop} (h : Keep w w' S) {b : Nat} {i : Nat} {v : Value} (hc : w.cell? ⟨b, i, none⟩ = some v) (hn : ¬ S b) : w'.cell? ⟨b, i, none⟩ = some v := by
  have hlt : b < w.heap.size := World.block_lt_of_cell? w ⟨b, i, none⟩ hc
  have := h.block b hlt hn
  simpa [World.cell?, this] using hc
def oneC : Value → Bool
  | .agg _ | .tuple _ => false
  | _ => true
def setRange (c : Array Value) (off : Nat) : List Value → Array Value
  | [] => c
  | v :: r => setRange (c.setIfInBounds off v) (off + 1) r
section maps
variable {κ : Type} [DecidableEq κ]
def aget {α : Type} : List (κ × α) → κ → Option α
  | [], _ => none
  | (a, v) :: r, k => if a = k then some v else aget r k
def aset {α : Type} : List (κ × α) → κ → α → List (κ × α)
  | [], k, v => [(k, v)]
  | (a, x) :: r, k, v => if a = k then (a, v) :: r else (a, x) :: aset r k v
def adel {α : Type} : List (κ × α) → κ → List (κ × α)
  | [], _ => []
  | (a, x) :: r, k => if a = k then r else (a, x) :: adel r k
def aidx {α : Type} : List (κ × α) → κ → Nat → Option (Nat × α)
  | [], _, _ => none
  | (a, v) :: r, k, i => if a = k then some (i, v) else aidx r k (i + 1)
structure KeyKind (P : Program) (kt : TypeId) (kv : κ → Value) : Prop where
  desc : ∃ d, P.underlying kt = some d ∧ ∀ a b, Instr.sameNow d (kv a) (kv b) = some (decide (a = b))
  chk : ∀ (e : Bool) (w : World) (a : κ), (Instr.checkKey e 10000 kt (kv a)).run P w = .ok () w
  bits : ∀ a, Instr.sameBits 10000 (kv a) (kv a) = true
def MapAtB (w : World) (b : Nat) (kv : κ → Value) (L : List (κ × Value)) (B : List Nat) (clock : Nat) : Prop :=
  B.length = L.length ∧ w.heap[b]? = some (.map ((L.zip B).map fun x => ({ key := kv x.1.1, val := x.1.2, born := x.2 } : MapEntry)).toArray clock) ∧
    (L.map Prod.fst).Nodup ∧ B.Nodup ∧ ∀ n ∈ B, n < clock
def MapAt (w : World) (b : Nat) (kv : κ → Value) (L : List (κ × Value)) : Prop := ∃ B clock, MapAtB w b kv L B clock
theorem MapAtB.keep {w w' : World} {S : Nat → Prop} {b : Nat} {kv : κ → Value} {L : List (κ × Value)} {B : List Nat} {c : Nat} (h : MapAtB w b kv L B c) (hk : Keep w w' S) (hn : ¬ S b) : MapAtB w' b kv L B c :=
  ⟨h.1, hk.get h.2.1 hn, h.2.2⟩
theorem MapAt.keep {w w' : World} {S : Nat → Prop} {b : Nat} {kv : κ → Value} {L : List (κ × Value)} (h : MapAt w b kv L) (hk : Keep w w' S) (hn : ¬ S b) : MapAt w' b kv L :=
  let ⟨B, c, hb⟩ := h; ⟨B, c, hb.keep hk hn⟩
theorem MapAt.lt {w : World} {b : Nat} {kv : κ → Value} {L : List (κ × Value)} (h : MapAt w b kv L) : b < w.heap.size :=
  let ⟨_, _, hb⟩ := h; lt_of_blk hb.2.1
theorem MapAt.nodup {w : World} {b : Nat} {kv : κ → Value} {L : List (κ × Value)} (h : MapAt w b kv L) : (L.map Prod.fst).Nodup :=
  let ⟨_, _, hb⟩ := h; hb.2.2.1
theorem MapAt.made {w : World} {b : Nat} {kv : κ → Value} (h : w.heap[b]? = some (.map #[] 0)) : MapAt w b kv [] :=
  ⟨[], 0, rfl, by simpa using h, by simp, by simp, by simp⟩
theorem aidx_get {α : Type} (L : List (κ × α)) (k : κ) : ∀ i, (aidx L k i).map Prod.snd = aget L k := by
  induction L with
  | nil => intro i; rfl
  | cons x r ih =>
    intro i
    obtain ⟨a, v⟩ := x
    simp only [aidx, aget]
    split
    · rfl
    · exact ih _
theorem aidx_ge {α : Type} (L : List (κ × α)) (k : κ) : ∀ i n v, aidx L k i = some (n, v) → i ≤ n := by
  induction L with
  | nil => intro i n v h; simp [aidx] at h
  | cons x r ih =>
    intro i n v h
    obtain ⟨a, u⟩ := x
    simp only [aidx] at h
    split at h
    · simp at h; omega
    · have := ih _ _ _ h; omega
theorem find_run {P : Program} {kt : TypeId} {kv : κ → Value} (K : KeyKind P kt kv) (w : World) (L : List (κ × Value)) (B : List Nat) (hl : B.length = L.length) (k : κ) :
    (Instr.findKey kt (kv k) ((L.zip B).map fun x => ({ key := kv x.1.1, val := x.1.2, born := x.2 } : MapEntry))).run P w = .ok (aidx L k 0) w := by
  obtain ⟨d, hd, hs⟩ := K.desc
  have key : ∀ (L : List (κ × Value)) (B : List Nat) (i : Nat), B.length = L.length →
      Instr.findNow d (kv k) ((L.zip B).map fun x => ({ key := kv x.1.1, val := x.1.2, born := x.2 } : MapEntry)) i = some (aidx L k i) := by
    intro L
    induction L with
    | nil => intro B i _; simp [Instr.findNow, aidx]
    | cons x r ih =>
      intro B i hl
      cases B with
      | nil => simp at hl
      | cons n B =>
        obtain ⟨a, v⟩ := x
        simp only [List.zip_cons_cons, List.map_cons, Instr.findNow, hs, aidx]
        by_cases h : k = a
        · subst h; simp
        · have h' : ¬ a = k := fun e => h e.symm
          simp only [h, h', decide_false, if_false]
          exact ih B (i + 1) (by simpa using hl)
  have hu : (underlying kt).run P w = .ok d w := by simp [underlying, program, Sem.run, hd]
  unfold Instr.findKey
  simp only [Sem.run_bind, hu, Result.andThen_ok, key L B 0 hl]
  rfl
theorem lookup_run {P : Program} {t kt et : TypeId} {kv : κ → Value} (K : KeyKind P kt kv) (ht : P.underlying t = some (.map kt et)) {z : Value} {w : World} (hz : ∀ w, (zeroValue et).run P w = .ok z w)
    {b : Nat} {L : List (κ × Value)} (hm : MapAt w b kv L) (k : κ) (ok : Bool) :
    (Instr.lookup t (.map (some b)) (kv k) ok).run P w = .ok (if ok then .tuple #[(aget L k).getD z, .bool (aget L k).isSome] else (aget L k).getD z) w := by
  obtain ⟨B, clock, hl, hb, _⟩ := hm
  have hu : (underlying t).run P w = .ok (.map kt et) w := by simp [underlying, program, Sem.run, ht]
  have hf := find_run K w L B hl k
  have hg : (getObj b).run P w = .ok (.map ((L.zip B).map fun x => ({ key := kv x.1.1, val := x.1.2, born := x.2 } : MapEntry)).toArray clock) w := by simp [getObj, Sem.run, hb]
  have hc := K.chk
  unfold Instr.lookup
  simp only [Sem.run_bind, hu, Result.andThen_ok, hg, hc, Sem.run_pure, hf]
  have hi := aidx_get L k 0
  cases h : aidx L k 0 with
  | none =>
    rw [h] at hi
    simp only [Option.map_none] at hi
    simp only [← hi, Sem.run_bind, hz, Result.andThen_ok, Sem.run_pure]
    simp
  | some x =>
    obtain ⟨i, v⟩ := x
    rw [h] at hi
    simp only [Option.map_some] at hi
    simp only [← hi, Sem.run_pure, Result.andThen_ok]
    simp
theorem aidx_none {α : Type} (L : List (κ × α)) (k : κ) : ∀ i, aidx L k i = none → k ∉ L.map Prod.fst := by
  induction L with
  | nil => intro i _; simp
  | cons x r ih =>
    intro i h
    obtain ⟨a, u⟩ := x
    simp only [aidx] at h
    split at h
    · simp at h
    · rename_i hn
      simp only [List.map_cons, List.mem_cons, not_or]
      exact ⟨fun e => hn e.symm, ih _ h⟩
theorem aset_new {α : Type} (L : List (κ × α)) (k : κ) (v : α) (h : k ∉ L.map Prod.fst) : aset L k v = L ++ [(k, v)] := by
  induction L with
  | nil => rfl
  | cons x r ih =>
    obtain ⟨a, u⟩ := x
    simp only [List.map_cons, List.mem_cons, not_or] at h
    simp only [aset, List.cons_append]
    rw [if_neg (fun e => h.1 e.symm), ih h.2]
theorem aset_fst {α : Type} (L : List (κ × α)) (k : κ) (v : α) (h : k ∈ L.map Prod.fst) : (aset L k v).map Prod.fst = L.map Prod.fst := by
  induction L with
  | nil => simp at h
  | cons x r ih =>
    obtain ⟨a, u⟩ := x
    simp only [aset]
    split
    · rfl
    · rename_i hn
      simp only [List.map_cons, List.mem_cons] at h ⊢
      rw [ih (h.resolve_left (fun e => hn e.symm))]
theorem aset_modify {kv : κ → Value} (L : List (κ × Value)) (k : κ) (v : Value) : ∀ (B : List Nat) (i n : Nat) (x : Value), B.length = L.length → aidx L k i = some (n, x) →
    ((L.zip B).map fun x => ({ key := kv x.1.1, val := x.1.2, born := x.2 } : MapEntry)).modify (n - i) (fun e => { e with key := kv k, val := v }) =
      (((aset L k v).zip B).map fun x => ({ key := kv x.1.1, val := x.1.2, born := x.2 } : MapEntry)) := by
  induction L with
  | nil => intro B i n x _ h; simp [aidx] at h
  | cons y r ih =>
    intro B i n x hl h
    obtain ⟨a, u⟩ := y
    cases B with
    | nil => simp at hl
    | cons m B =>
      simp only [aidx] at h
      by_cases ha : a = k
      · rw [if_pos ha] at h
        simp only [Option.some.injEq, Prod.mk.injEq] at h
        obtain ⟨rfl, rfl⟩ := h
        subst ha
        simp [aset]
      · rw [if_neg ha] at h
        have hg := aidx_ge r k _ _ _ h
        have hi := ih B (i + 1) n x (by simpa using hl) h
        have e : n - i = (n - (i + 1)) + 1 := by omega
        rw [e]
        simp only [List.zip_cons_cons, List.map_cons, List.modify_succ_cons, aset, if_neg ha]
        rw [hi]
theorem aidx_lt {α : Type} (L : List (κ × α)) (k : κ) : ∀ (i n : Nat) (x : α), aidx L k i = some (n, x) → n - i < L.length ∧ (L[n - i]?).map Prod.fst = some k := by
  induction L with
  | nil => intro i n x h; simp [aidx] at h
  | cons y r ih =>
    intro i n x h
    obtain ⟨a, u⟩ := y
    simp only [aidx] at h
    by_cases ha : a = k
    · rw [if_pos ha] at h
      simp only [Option.some.injEq, Prod.mk.injEq] at h
      obtain ⟨rfl, rfl⟩ := h
      simp [ha]
    · rw [if_neg ha] at h
      have hg := aidx_ge r k _ _ _ h
      have hi := ih (i + 1) n x h
      have e : n - i = (n - (i + 1)) + 1 := by omega
      rw [e]
      simp only [List.length_cons, List.getElem?_cons_succ]
      exact ⟨by omega, hi.2⟩
theorem setObj_run {P : Program} {w : World} {b : Nat} {o o' : Obj} (h : w.heap[b]? = some o) (hn : ∀ c t f, o ≠ .cells c t f) :
    ∃ w', (setObj b o').run P w = .ok () w' ∧ w'.heap[b]? = some o' ∧ Keep w w' (fun x => x = b) := by
  have hlt := lt_of_blk h
  refine ⟨{ w with heap := w.heap.setIfInBounds b o' }, ?_, by simp [hlt], ⟨by simp, fun x hx hn => ?_, rfl, rfl, rfl⟩⟩
  · simp only [setObj, Sem.run, h]
  · show (w.heap.setIfInBounds b o')[x]? = w.heap[x]?
    rw [Array.getElem?_setIfInBounds_ne (fun e => hn e.symm)]
theorem update_run {P : Program} {t kt et : TypeId} {kv : κ → Value} (K : KeyKind P kt kv) (ht : P.underlying t = some (.map kt et)) {w : World} {b : Nat} {L : List (κ × Value)} (hm : MapAt w b kv L) (k : κ) (v : Value) :
    ∃ w', (Instr.mapUpdate t (.map (some b)) (kv k) v).run P w = .ok () w' ∧ MapAt w' b kv (aset L k v) ∧ Keep w w' (fun x => x = b) := by
  obtain ⟨B, clock, hl, hb, hnd, hB, hc⟩ := hm
  have hu : (underlying t).run P w = .ok (.map kt et) w := by simp [underlying, program, Sem.run, ht]
  have hf := find_run K w L B hl k
  have hg : (getObj b).run P w = .ok (.map ((L.zip B).map fun x => ({ key := kv x.1.1, val := x.1.2, born := x.2 } : MapEntry)).toArray clock) w := by simp [getObj, Sem.run, hb]
  have hk := K.chk
  unfold Instr.mapUpdate
  simp only [Sem.run_bind, hu, Result.andThen_ok, hg, hk, hf]
  cases h : aidx L k 0 with
  | none =>
    have hnew := aidx_none L k 0 h
    obtain ⟨w', hrun, hb', hkeep⟩ := setObj_run (P := P) (o' := .map (((L.zip B).map fun x => ({ key := kv x.1.1, val := x.1.2, born := x.2 } : MapEntry)).toArray.push { key := kv k, val := v, born := clock }) (clock + 1)) hb (by simp)
    refine ⟨w', hrun, ⟨B ++ [clock], clock + 1, ?_, ?_, ?_, ?_, ?_⟩, hkeep⟩
    · rw [aset_new L k v hnew]; simp [hl]
    · rw [hb', aset_new L k v hnew, List.zip_append hl.symm]
      simp
    · rw [aset_new L k v hnew]
      simp only [List.map_append, List.map_cons, List.map_nil]
      exact List.nodup_append.2 ⟨hnd, by simp, fun a ha b hb e => by simp at hb; subst hb; exact hnew (e ▸ ha)⟩
    · exact List.nodup_append.2 ⟨hB, by simp, fun a ha b hb e => by simp at hb; subst hb; have := hc a ha; omega⟩
    · intro n hn
      rcases List.mem_append.1 hn with q | q
      · have := hc n q; omega
      · simp at q; omega
  | some x =>
    obtain ⟨i, u⟩ := x
    have hlt := aidx_lt L k 0 i u h
    simp only [Nat.sub_zero] at hlt
    have hmem : k ∈ L.map Prod.fst := by
      obtain ⟨h1, h2⟩ := hlt
      rw [List.getElem?_eq_getElem h1] at h2
      simp only [Option.map_some, Option.some.injEq] at h2
      exact h2 ▸ List.mem_map_of_mem (List.getElem_mem h1)
    have hkey : ((((L.zip B).map fun x => ({ key := kv x.1.1, val := x.1.2, born := x.2 } : MapEntry)).toArray[i]?).map (·.key)).getD (kv k) = kv k := by
      obtain ⟨h1, h2⟩ := hlt
      have hi : i < (L.zip B).length := by simp [hl, h1]
      rw [List.getElem?_eq_getElem h1] at h2
      simp only [Option.map_some, Option.some.injEq] at h2
      simp [List.getElem?_eq_getElem hi, h2]
    have hs := K.bits
    obtain ⟨w', hrun, hb', hkeep⟩ := setObj_run (P := P) (o' := .map (((L.zip B).map fun x => ({ key := kv x.1.1, val := x.1.2, born := x.2 } : MapEntry)).toArray.modify i fun e => { e with key := kv k, val := v }) clock) hb (by simp)
    refine ⟨w', ?_, ⟨B, clock, ?_, ?_, ?_, hB, hc⟩, hkeep⟩
    · simp only [hkey, Instr.keyThatStays, hs, if_true, Sem.run_bind, Sem.run_pure, Result.andThen_ok, hrun]
    · have := congrArg List.length (aset_fst L k v hmem)
      simp at this; omega
    · rw [hb']
      have := aset_modify (kv := kv) L k v B 0 i u hl h
      simp only [Nat.sub_zero] at this
      rw [← this]
      simp
    · rw [aset_fst L k v hmem]; exact hnd
theorem adel_sub {α : Type} (L : List (κ × α)) (k : κ) : (adel L k).Sublist L := by
  induction L with
  | nil => exact List.Sublist.refl _
  | cons x r ih =>
    obtain ⟨a, u⟩ := x
    simp only [adel]
    split
    · exact List.sublist_cons_self _ _
    · exact List.Sublist.cons_cons _ ih
theorem adel_erase {kv : κ → Value} (L : List (κ × Value)) (k : κ) : ∀ (B : List Nat) (i n : Nat) (x : Value), B.length = L.length → aidx L k i = some (n, x) →
    ((L.zip B).map fun x => ({ key := kv x.1.1, val := x.1.2, born := x.2 } : MapEntry)).eraseIdx (n - i) =
      (((adel L k).zip (B.eraseIdx (n - i))).map fun x => ({ key := kv x.1.1, val := x.1.2, born := x.2 } : MapEntry)) ∧ (B.eraseIdx (n - i)).length = (adel L k).length := by
  induction L with
  | nil => intro B i n x _ h; simp [aidx] at h
  | cons y r ih =>
    intro B i n x hl h
    obtain ⟨a, u⟩ := y
    cases B with
    | nil => simp at hl
    | cons m B =>
      simp only [aidx] at h
      by_cases ha : a = k
      · rw [if_pos ha] at h
        simp only [Option.some.injEq, Prod.mk.injEq] at h
        obtain ⟨rfl, rfl⟩ := h
        subst ha
        simp only [List.length_cons, Nat.add_right_cancel_iff] at hl
        simp [adel, hl]
      · rw [if_neg ha] at h
        have hg := aidx_ge r k _ _ _ h
        have hi := ih B (i + 1) n x (by simpa using hl) h
        have e : n - i = (n - (i + 1)) + 1 := by omega
        rw [e]
        simp only [List.zip_cons_cons, List.map_cons, List.eraseIdx_cons_succ, adel, if_neg ha, List.length_cons]
        exact ⟨by rw [hi.1], by rw [hi.2]⟩
theorem aidx_none_del {α : Type} (L : List (κ × α)) (k : κ) : ∀ i, aidx L k i = none → adel L k = L := by
  induction L with
  | nil => intro i _; rfl
  | cons x r ih =>
    intro i h
    obtain ⟨a, u⟩ := x
    simp only [aidx] at h
    split at h
    · simp at h
    · rename_i hn
      simp only [adel, if_neg hn, ih _ h]
theorem delete_run {P : Program} {t kt et kx : TypeId} {kv : κ → Value} (K : KeyKind P kt kv) (ht : P.underlying t = some (.map kt et)) {w : World} {b : Nat} {L : List (κ × Value)} (hm : MapAt w b kv L) (k : κ) :
    ∃ w', (Builtin.delete_ #[t, kx] 0 #[.map (some b), kv k]).run P w = .ok (.tuple #[]) w' ∧ MapAt w' b kv (adel L k) ∧ Keep w w' (fun x => x = b) ∧
      (∀ B c, MapAtB w b kv L B c → ∃ B', MapAtB w' b kv (adel L k) B' c ∧ ∀ x ∈ (adel L k).zip B', x ∈ L.zip B) := by
  obtain ⟨B, clock, hl, hb, hnd, hB, hc⟩ := hm
  have hu : (underlying t).run P w = .ok (.map kt et) w := by simp [underlying, program, Sem.run, ht]
  have hf := find_run K w L B hl k
  have hg : (getObj b).run P w = .ok (.map ((L.zip B).map fun x => ({ key := kv x.1.1, val := x.1.2, born := x.2 } : MapEntry)).toArray clock) w := by simp [getObj, Sem.run, hb]
  have hk := K.chk
  unfold Builtin.delete_
  simp only [List.getElem?_toArray, List.getElem?_cons_zero, List.getElem?_cons_succ, Sem.run_bind, hu, Result.andThen_ok, hg, hk, hf]
  have one : ∀ B' c', MapAtB w b kv L B' c' → B' = B ∧ c' = clock := by
    intro B' c' h
    have h2 := h.2.1
    rw [hb] at h2
    simp only [Option.some.injEq, Obj.map.injEq] at h2
    refine ⟨?_, h2.2.symm⟩
    have h3 := congrArg (List.map MapEntry.born) (congrArg Array.toList h2.1)
    simp only [List.map_map] at h3
    have q : ∀ (B : List Nat), B.length = L.length → List.map (MapEntry.born ∘ fun x : (κ × Value) × Nat => ({ key := kv x.1.1, val := x.1.2, born := x.2 } : MapEntry)) (L.zip B) = B := by
      intro B hB
      have : (MapEntry.born ∘ fun x : (κ × Value) × Nat => ({ key := kv x.1.1, val := x.1.2, born := x.2 } : MapEntry)) = Prod.snd := rfl
      rw [this, List.map_snd_zip (by omega)]
    rw [q B hl, q B' h.1] at h3
    exact h3.symm
  cases h : aidx L k 0 with
  | none =>
    obtain ⟨w', hrun, hb', hkeep⟩ := setObj_run (P := P) (o' := .map ((L.zip B).map fun x => ({ key := kv x.1.1, val := x.1.2, born := x.2 } : MapEntry)).toArray clock) hb (by simp)
    have hd := aidx_none_del L k 0 h
    rw [hd]
    have hm' : MapAtB w' b kv L B clock := ⟨hl, hb', hnd, hB, hc⟩
    refine ⟨w', ?_, ⟨B, clock, hm'⟩, hkeep, ?_⟩
    · simp only [Sem.run_bind, hrun, Result.andThen_ok, Sem.run_pure]
    · intro B' c' h'
      obtain ⟨rfl, rfl⟩ := one B' c' h'
      exact ⟨_, hm', fun x hx => hx⟩
  | some x =>
    obtain ⟨i, u⟩ := x
    have he := adel_erase (kv := kv) L k B 0 i u hl h
    simp only [Nat.sub_zero] at he
    obtain ⟨w', hrun, hb', hkeep⟩ := setObj_run (P := P) (o' := .map (((L.zip B).map fun x => ({ key := kv x.1.1, val := x.1.2, born := x.2 } : MapEntry)).toArray.eraseIdxIfInBounds i) clock) hb (by simp)
    have hm' : MapAtB w' b kv (adel L k) (B.eraseIdx i) clock := by
      refine ⟨he.2, ?_, ?_, ?_, ?_⟩
      · rw [hb', ← he.1]; simp
      · exact hnd.sublist ((adel_sub L k).map _)
      · exact hB.sublist (List.eraseIdx_sublist _ _)
      · exact fun n hn => hc n ((List.eraseIdx_sublist _ _).mem hn)
    refine ⟨w', ?_, ⟨_, clock, hm'⟩, hkeep, ?_⟩
    · simp only [Sem.run_bind, hrun, Result.andThen_ok, Sem.run_pure]
    · intro B' c' h'
      obtain ⟨rfl, rfl⟩ := one B' c' h'
      refine ⟨_, hm', fun x hx => ?_⟩
      have hz := congrArg (List.map fun e : MapEntry => e.born) he.1
      have : ((adel L k).zip (B'.eraseIdx i)).Sublist (L.zip B') := by
        have hx : (L.zip B').eraseIdx i = (adel L k).zip (B'.eraseIdx i) := by
          clear hz hm' hrun hb' hkeep hx x
          have hlt := aidx_lt L k 0 i u h
          have : ∀ (L : List (κ × Value)) (B : List Nat) (j n : Nat) (x : Value), B.length = L.length → aidx L k j = some (n, x) → (L.zip B).eraseIdx (n - j) = (adel L k).zip (B.eraseIdx (n - j)) := by
            intro L
            induction L with
            | nil => intro B j n x _ h; simp [aidx] at h
            | cons y r ih =>
              intro B j n x hl h
              obtain ⟨a, u⟩ := y
              cases B with
              | nil => simp at hl
              | cons m B =>
                simp only [aidx] at h
                by_cases ha : a = k
                · rw [if_pos ha] at h
                  simp only [Option.some.injEq, Prod.mk.injEq] at h
                  obtain ⟨rfl, rfl⟩ := h
                  simp [adel, ha]
                · rw [if_neg ha] at h
                  have hg := aidx_ge r k _ _ _ h
                  have e : n - j = (n - (j + 1)) + 1 := by omega
                  rw [e]
                  simp only [List.zip_cons_cons, List.eraseIdx_cons_succ, adel, if_neg ha]
                  rw [ih B (j + 1) n x (by simpa using hl) h]
          have := this L B' 0 i u hl h
          simpa using this
        rw [← hx]
        exact List.eraseIdx_sublist _ _
      exact this.mem hx
theorem len_run {P : Program} {t kt et : TypeId} {kv : κ → Value} (ht : P.underlying t = some (.map kt et)) {w : World} {b : Nat} {L : List (κ × Value)} (hm : MapAt w b kv L) (ty : TypeId) :
    (Builtin.len_ #[t] ty #[.map (some b)]).run P w = .ok (.int .i64 L.length) w := by
  obtain ⟨B, c, hl, hb, _⟩ := hm
  have hg : (getObj b).run P w = .ok (.map ((L.zip B).map fun x => ({ key := kv x.1.1, val := x.1.2, born := x.2 } : MapEntry)).toArray c) w := by simp [getObj, Sem.run, hb]
  have hu : (underlying t).run P w = .ok (.map kt et) w := by simp [underlying, program, Sem.run, ht]
  simp [Builtin.len_, hg, hu, Result.andThen, goInt]
  rw [hl, Nat.min_self]
theorem MapAt.drew {w : World} {b : Nat} {kv : κ → Value} {L : List (κ × Value)} (h : MapAt w b kv L) : MapAt w.drew b kv L := h.keep (Keep.drew w (fun _ => False)) (fun q => q)
def IterAt (w : World) (it m : Nat) (L : List (κ × Value)) (B : List Nat) (done : List κ) : Prop :=
  ∃ since seen last, w.heap[it]? = some (.mapIter (some m) since seen last) ∧ (∀ b ∈ B, b < since ∧ b < last) ∧ ∀ x ∈ L.zip B, (x.2 ∈ seen ↔ x.1.1 ∈ done)
theorem IterAt.keep {w w' : World} {S : Nat → Prop} {it m : Nat} {L : List (κ × Value)} {B : List Nat} {done : List κ} (h : IterAt w it m L B done) (hk : Keep w w' S) (hn : ¬ S it) : IterAt w' it m L B done :=
  let ⟨s, sn, l, hb, r⟩ := h; ⟨s, sn, l, hk.get hb hn, r⟩
theorem range_run {P : Program} {t kt et : TypeId} {kv : κ → Value} (ht : P.underlying t = some (.map kt et)) {w : World} {m : Nat} {L : List (κ × Value)} {B : List Nat} {c : Nat} (hm : MapAtB w m kv L B c) :
    ∃ w', (Instr.range t (.map (some m))).run P w = .ok (.pointer (some ⟨w.heap.size, 0, none⟩)) w' ∧ IterAt w' w.heap.size m L B [] ∧ MapAtB w' m kv L B c ∧ Keep w w' (fun _ => False) ∧ w.heap.size < w'.heap.size := by
  have hu : (underlying t).run P w = .ok (.map kt et) w := by simp [underlying, program, Sem.run, ht]
  have hg : (getObj m).run P w = .ok (.map ((L.zip B).map fun x => ({ key := kv x.1.1, val := x.1.2, born := x.2 } : MapEntry)).toArray c) w := by simp [getObj, Sem.run, hm.2.1]
  have hk : Keep w (w.alloc (.mapIter (some m) c #[] c)) (fun _ => False) := Keep.alloc _ _ _
  refine ⟨w.alloc (.mapIter (some m) c #[] c), ?_, ⟨c, #[], c, heap_alloc_eq _ _, fun b hb => ⟨hm.2.2.2.2 b hb, hm.2.2.2.2 b hb⟩, by simp⟩, hm.keep hk (fun h => h), hk, by simp⟩
  unfold Instr.range
  simp only [Sem.run_bind, hu, Result.andThen_ok, hg, Sem.run_pure, run_newObj]
  rfl
theorem nodup_inj {α β : Type} {f : α → β} {l : List α} (h : (l.map f).Nodup) {x y : α} (hx : x ∈ l) (hy : y ∈ l) (e : f x = f y) : x = y := by
  induction l with
  | nil => simp at hx
  | cons a r ih =>
    simp only [List.map_cons, List.nodup_cons] at h
    rcases List.mem_cons.1 hx with hx | hx <;> rcases List.mem_cons.1 hy with hy | hy
    · rw [hx, hy]
    · exact absurd (List.mem_map_of_mem (f := f) hy) (by rw [← e, hx]; exact h.1)
    · exact absurd (List.mem_map_of_mem (f := f) hx) (by rw [e, hy]; exact h.1)
    · exact ih h.2 hx hy
theorem nodup_snd_inj {α β : Type} {l : List (α × β)} (h : (l.map Prod.snd).Nodup) {x y : α × β} (hx : x ∈ l) (hy : y ∈ l) (e : x.2 = y.2) : x = y := nodup_inj h hx hy e
theorem next_run {P : Program} {t : TypeId} {kv : κ → Value} {w : World} {it m : Nat} {L : List (κ × Value)} {B : List Nat} {c : Nat} {done : List κ} (hm : MapAtB w m kv L B c) (hi : IterAt w it m L B done) (hne : it ≠ m) :
    (∃ w', (Instr.next (.pointer (some ⟨it, 0, none⟩)) false t).run P w = .ok (.tuple #[.bool false]) w' ∧ (∀ x ∈ L, x.1 ∈ done) ∧ Keep w w' (fun x => x = it)) ∨
    (∃ w' x, x ∈ L ∧ x.1 ∉ done ∧ (Instr.next (.pointer (some ⟨it, 0, none⟩)) false t).run P w = .ok (.tuple #[.bool true, kv x.1, x.2]) w' ∧
      (Instr.entry (.pointer (some ⟨it, 0, none⟩))).run P w' = .ok (.tuple #[kv x.1, x.2]) w' ∧ MapAtB w' m kv L B c ∧ IterAt w' it m L B (x.1 :: done) ∧ Keep w w' (fun x => x = it)) := by
  obtain ⟨since, seen, last, hb, hlt, hseen⟩ := hi
  obtain ⟨hl, hmb, hnd, hB, hc⟩ := hm
  have hg : ∀ w1, Keep w w1 (fun x => x = it) → (getObj m).run P w1 = .ok (.map ((L.zip B).map fun x => ({ key := kv x.1.1, val := x.1.2, born := x.2 } : MapEntry)).toArray c) w1 := by
    intro w1 hk
    have := hk.get hmb (fun e => hne e.symm)
    simp [getObj, Sem.run, this]
  have hgi : (getObj it).run P w = .ok (.mapIter (some m) since seen last) w := by simp [getObj, Sem.run, hb]
  have born : ∀ e ∈ (L.zip B).map (fun x => ({ key := kv x.1.1, val := x.1.2, born := x.2 } : MapEntry)), e.born < since ∧ e.born < last := by
    intro e he
    obtain ⟨x, hx, rfl⟩ := List.mem_map.1 he
    exact hlt _ (List.of_mem_zip hx).2
  have htest : (!seen.isEmpty && !(((L.zip B).map fun x => ({ key := kv x.1.1, val := x.1.2, born := x.2 } : MapEntry)).toArray).isEmpty && (((L.zip B).map fun x => ({ key := kv x.1.1, val := x.1.2, born := x.2 } : MapEntry)).toArray).all (·.born ≥ last)) = false := by
    cases hz : L.zip B with
    | nil => simp
    | cons x r =>
      have h0 : x.2 < last := (born { key := kv x.1.1, val := x.1.2, born := x.2 } (by rw [hz]; simp)).2
      simp
      intro _ h
      omega
  -- what is left
  have hold : ((((L.zip B).map fun x => ({ key := kv x.1.1, val := x.1.2, born := x.2 } : MapEntry)).toArray.filter fun e => !seen.contains e.born).filter (·.born < since)) =
      (((L.zip B).filter fun x => !seen.contains x.2).map fun x => ({ key := kv x.1.1, val := x.1.2, born := x.2 } : MapEntry)).toArray := by
    rw [List.filter_toArray, List.filter_toArray, List.filter_map]
    congr 1
    refine List.filter_eq_self.2 ?_
    intro e he
    obtain ⟨x, hx, rfl⟩ := List.mem_map.1 he
    have := hlt _ (List.of_mem_zip (List.mem_filter.1 hx).1).2
    simpa using this.1
  have hnew : ((((L.zip B).map fun x => ({ key := kv x.1.1, val := x.1.2, born := x.2 } : MapEntry)).toArray.filter fun e => !seen.contains e.born).filter (·.born ≥ since)) = #[] := by
    rw [List.filter_toArray, List.filter_toArray]
    congr 1
    rw [List.filter_eq_nil_iff]
    intro e he
    have := (born e (List.mem_filter.1 he).1).1
    simp; omega
  have hcands := fun (b : Bool) => (rfl : b = b)
  generalize hR : ((L.zip B).filter fun x => !seen.contains x.2) = R at hold
  by_cases hRe : R = []
  · -- nothing is left
    subst hRe
    left
    refine ⟨w, ?_, ?_, Keep.refl _ _⟩
    · unfold Instr.next
      simp only [Sem.run_bind, hgi, Result.andThen_ok, hg w (Keep.refl _ _), htest, hold, hnew, Bool.false_eq_true, if_false]
      simp [choose, Sem.run, Question.forced]
    · intro x hx
      obtain ⟨j, hj, rfl⟩ := List.mem_iff_getElem.1 hx
      have hjB : j < B.length := by omega
      have hz : (L[j], B[j]) ∈ L.zip B := by
        rw [List.mem_iff_getElem]
        exact ⟨j, by simp; omega, by simp⟩
      have := List.filter_eq_nil_iff.1 hR _ hz
      simp only [Bool.not_eq_true', Bool.not_eq_false, Array.contains_eq_mem, decide_eq_true_eq] at this
      exact (hseen _ hz).1 (by simpa using this)
  · right
    -- the one that is drawn
    obtain ⟨w0, j, hj, hch, hk0, hch0⟩ : ∃ w0 j, j < R.length ∧ (choose (.mapNext R.length)).run P w = .ok j w0 ∧ Keep w w0 (fun x => x = it) ∧ (w0 = w ∨ w0 = w.drew) := by
      have hpos : 0 < R.length := List.length_pos_iff.2 hRe
      by_cases h1 : R.length ≤ 1
      · exact ⟨w, 0, hpos, by simp [choose, Sem.run, Question.forced, h1], Keep.refl _ _, .inl rfl⟩
      · exact ⟨w.drew, w.tape w.drawn (.mapNext R.length) % R.length, Nat.mod_lt _ hpos, by simp [choose, Sem.run, Question.forced, h1, Question.cut], Keep.drew _ _, .inr rfl⟩
    have hb0 : w0.heap[it]? = some (.mapIter (some m) since seen last) := by
      rcases hch0 with rfl | rfl <;> exact hb
    obtain ⟨w', hs, hb', hk'⟩ := setObj_run (P := P) (w := w0) (o' := .mapIter (some m) since (seen.push R[j].2) c) hb0 (by simp)
    have hk : Keep w w' (fun x => x = it) := hk0.trans hk' (fun b hb => .inl hb)
    have hRj : R[j] ∈ R := List.getElem_mem hj
    have hRf : R[j] ∈ (L.zip B).filter fun x => !seen.contains x.2 := by rw [hR]; exact hRj
    have hz := (List.mem_filter.1 hRf).1
    have hns : R[j].2 ∉ seen := by simpa using (List.mem_filter.1 hRf).2
    refine ⟨w', R[j].1, (List.of_mem_zip hz).1, fun h => hns ((hseen _ hz).2 h), ?_, ?_, ⟨hl, hk.get hmb (fun e => hne e.symm), hnd, hB, hc⟩, ⟨since, seen.push R[j].2, c, hb', fun b hbB => ⟨(hlt b hbB).1, hc b hbB⟩, ?_⟩, hk⟩
    · unfold Instr.next
      simp only [Sem.run_bind, hgi, Result.andThen_ok, hg w (Keep.refl _ _), htest, hold, hnew, Bool.false_eq_true, if_false]
      have hRe' : ((R.map fun x => ({ key := kv x.1.1, val := x.1.2, born := x.2 } : MapEntry)).toArray).isEmpty = false := by
        cases R with
        | nil => exact absurd rfl hRe
        | cons => rfl
      have hsz : ((#[] ++ ((R.map fun (x : (κ × Value) × Nat) => ({ key := kv x.1.1, val := x.1.2, born := x.2 } : MapEntry)).toArray ++ #[]).map some : Array (Option MapEntry))).size = R.length := by simp
      have hat : ((#[] ++ ((R.map fun (x : (κ × Value) × Nat) => ({ key := kv x.1.1, val := x.1.2, born := x.2 } : MapEntry)).toArray ++ #[]).map some : Array (Option MapEntry)))[j]? = some (some { key := kv R[j].1.1, val := R[j].1.2, born := R[j].2 }) := by
        simp [List.getElem?_eq_getElem hj]
      simp only [hRe', Bool.false_eq_true, if_false, hsz, hch, Result.andThen_ok, hat, Sem.run_bind, hs, Sem.run_pure]
    · unfold Instr.entry
      have hgi' : (getObj it).run P w' = .ok (.mapIter (some m) since (seen.push R[j].2) c) w' := by simp [getObj, Sem.run, hb']
      have hfind : (((L.zip B).map fun x => ({ key := kv x.1.1, val := x.1.2, born := x.2 } : MapEntry)).toArray).find? (fun e => e.born == R[j].2) = some { key := kv R[j].1.1, val := R[j].1.2, born := R[j].2 } := by
        have hnd2 : ((L.zip B).map Prod.snd).Nodup := by rw [List.map_snd_zip (by omega)]; exact hB
        generalize L.zip B = Z at hz hnd2
        generalize R[j] = y at hz
        clear hs hb' hk' hRj hRf hns
        rw [List.find?_toArray, List.find?_map]
        have : Z.find? ((fun e => e.born == y.2) ∘ fun x => ({ key := kv x.1.1, val := x.1.2, born := x.2 } : MapEntry)) = some y := by
          induction Z with
          | nil => simp at hz
          | cons a r ih =>
            simp only [List.map_cons, List.nodup_cons] at hnd2
            rcases List.mem_cons.1 hz with rfl | hz
            · simp
            · have : a.2 ≠ y.2 := fun e => hnd2.1 (e ▸ List.mem_map_of_mem hz)
              rw [List.find?_cons_of_neg (by simpa using this)]
              exact ih hnd2.2 hz
        rw [this]; rfl
      simp only [Sem.run_bind, hgi', Result.andThen_ok, Array.back?_push, hg w' hk, bne_self_eq_false, Bool.false_eq_true, if_false, hfind, Sem.run_pure]
    · intro x hx
      simp only [Array.mem_push, List.mem_cons]
      constructor
      · rintro (h | h)
        · exact .inr ((hseen x hx).1 h)
        · left
          have hnd2 : ((L.zip B).map Prod.snd).Nodup := by rw [List.map_snd_zip (by omega)]; exact hB
          rw [nodup_snd_inj hnd2 hx hz h]
      · rintro (h | h)
        · right
          have hnd1 : ((L.zip B).map (fun x => x.1.1)).Nodup := by
            have : (L.zip B).map (fun x => x.1.1) = ((L.zip B).map Prod.fst).map Prod.fst := by simp
            rw [this, List.map_fst_zip (by omega)]; exact hnd
          rw [nodup_inj (f := fun x : (κ × Value) × Nat => x.1.1) hnd1 hx hz h]
        · exact .inl ((hseen x hx).2 h)
end maps
end Go.Proofs.YtoanccechefclaaGreatDoor
namespace Go.Proofs.YtoanccechefclaaGreatDoor
open Go Go.RowKit
def kInt (k : Int) : Value := .int .i64 k
def kStr (s : ByteArray) : Value := .string s
theorem key_int {P : Program} {kt : TypeId} (h : P.underlying kt = some (.int .i64)) : KeyKind P kt kInt where
  desc := ⟨_, h, fun a b => by simp [Instr.sameNow, kInt]; rfl⟩
  chk := fun e w a => by
    have hu : (underlying kt).run P w = .ok (.int .i64) w := by simp [underlying, program, Sem.run, h]
    unfold Instr.checkKey
    simp only [Sem.run_bind, hu, Result.andThen_ok, kInt]
    rfl
  bits := fun a => by simp [Instr.sameBits, kInt]
theorem key_str {P : Program} {kt : TypeId} (h : P.underlying kt = some .string) : KeyKind P kt kStr where
  desc := ⟨_, h, fun a b => by simp only [Instr.sameNow, kStr, Option.some.injEq]; rw [Bool.eq_iff_iff]; simp only [MapKept.bytes_beq, decide_eq_true_eq]⟩
  chk := fun e w a => by
    have hu : (underlying kt).run P w = .ok .string w := by simp [underlying, program, Sem.run, h]
    unfold Instr.checkKey
    simp only [Sem.run_bind, hu, Result.andThen_ok, kStr]
    rfl
  bits := fun a => by simp only [Instr.sameBits, kStr]; exact (MapKept.bytes_beq a a).2 rfl
section
variable {P : Program} {w : World} {ops : Array Oper} {rest : List Oper} {o : Oper} {a : Act} {Q : Exit → Act → World → Prop}
variable {κ : Type} [DecidableEq κ] {kt et t : TypeId} {kv : κ → Value} {b : Nat} {L : List (κ × Value)}
theorem law_update (hg : o.guard = none) (m x v : Operand) (t : TypeId) (hop : o.op = .mapUpdate t m x v) (K : KeyKind P kt kv) (ht : P.underlying t = some (.map kt et)) (hm : a.eval m = .map (some b))
    (hat : MapAt w b kv L) (k : κ) (hx : a.eval x = kv k) (hK : ∀ w1, MapAt w1 b kv (aset L k (a.eval v)) → Keep w w1 (fun x => x = b) → wpList P ops Q rest (a.put o.dst undef) w1) : wpList P ops Q (o :: rest) a w := by
  refine wpList_plain hg fun K' hK' => ?_
  obtain ⟨w1, hrun, h1, h2⟩ := update_run (P := P) K ht hat k (a.eval v)
  unfold Oper.wp
  simp [execOp, hop, hm, hx, hrun, Result.andThen]
  exact hK' _ _ (hK w1 h1 h2)
theorem law_range (hg : o.guard = none) (m : Operand) (t : TypeId) (hop : o.op = .range t m) (ht : P.underlying t = some (.map kt et)) (hm : a.eval m = .map (some b)) {B : List Nat} {c : Nat}
    (hat : MapAtB w b kv L B c) (hK : ∀ w1 it, it = w.heap.size → IterAt w1 it b L B [] → MapAtB w1 b kv L B c → Keep w w1 (fun _ => False) → it < w1.heap.size → wpList P ops Q rest (a.put o.dst (.pointer (some ⟨it, 0, none⟩))) w1) : wpList P ops Q (o :: rest) a w := by
  refine wpList_plain hg fun K' hK' => ?_
  obtain ⟨w1, hrun, h1, h2, h3, h4⟩ := range_run (P := P) ht hat
  unfold Oper.wp
  simp [execOp, hop, hm, hrun, Result.andThen]
  exact hK' _ _ (hK w1 _ rfl h1 h2 h3 h4)
theorem law_next (hg : o.guard = none) (i : Operand) (hop : o.op = .next i false) {it : Nat} (hi : a.eval i = .pointer (some ⟨it, 0, none⟩)) {B : List Nat} {c : Nat} {done : List κ}
    (hat : MapAtB w b kv L B c) (hit : IterAt w it b L B done) (hne : it ≠ b)
    (hover : ∀ w1, (∀ x ∈ L, x.1 ∈ done) → Keep w w1 (fun x => x = it) → wpList P ops Q rest (a.put o.dst (.tuple #[.bool false])) w1)
    (hmore : ∀ w1 x, x ∈ L → x.1 ∉ done → (Instr.entry (.pointer (some ⟨it, 0, none⟩))).run P w1 = .ok (.tuple #[kv x.1, x.2]) w1 → MapAtB w1 b kv L B c → IterAt w1 it b L B (x.1 :: done) → Keep w w1 (fun x => x = it) →
      wpList P ops Q rest (a.put o.dst (.tuple #[.bool true, kv x.1, x.2])) w1) : wpList P ops Q (o :: rest) a w := by
  refine wpList_plain hg fun K' hK' => ?_
  rcases next_run (P := P) (t := o.type) hat hit hne with ⟨w1, hrun, h1, h2⟩ | ⟨w1, x, h1, h2, hrun, h3, h4, h5, h6⟩
  · unfold Oper.wp
    simp [execOp, hop, hi, hrun, Result.andThen]
    exact hK' _ _ (hover w1 h1 h2)
  · unfold Oper.wp
    simp [execOp, hop, hi, hrun, Result.andThen]
    exact hK' _ _ (hmore w1 x h1 h2 h3 h4 h5 h6)
theorem law_delete (hg : o.guard = none) (m x : Operand) (t kx : TypeId) (hop : o.op = .call { callee := .builtin .delete, args := #[m, x], argTypes := #[t, kx] }) (K : KeyKind P kt kv) (ht : P.underlying t = some (.map kt et)) (hm : a.eval m = .map (some b))
    {B : List Nat} {c : Nat} (hat : MapAtB w b kv L B c) (k : κ) (hx : a.eval x = kv k)
    (hK : ∀ w1 B', MapAtB w1 b kv (adel L k) B' c → (∀ x ∈ (adel L k).zip B', x ∈ L.zip B) → Keep w w1 (fun x => x = b) → wpList P ops Q rest (a.put o.dst (.tuple #[])) w1) : wpList P ops Q (o :: rest) a w := by
  refine wpList_plain hg fun K' hK' => ?_
  obtain ⟨w1, hrun, h1, h2, h3⟩ := delete_run (P := P) (kx := kx) K ht ⟨B, c, hat⟩ k
  obtain ⟨B', h4, h5⟩ := h3 B c hat
  have hrun' : ∀ ty, (Builtin.delete_ #[t, kx] ty #[.map (some b), kv k]).run P w = .ok (.tuple #[]) w1 := fun ty => hrun
  unfold Oper.wp
  simp [execOp, hop, resolve, invoke, builtin, hm, hx, hrun', Result.andThen]
  exact hK' _ _ (hK w1 B' h4 h5 h2)
theorem law_len (hg : o.guard = none) (m : Operand) (t : TypeId) (hop : o.op = .call { callee := .builtin .len, args := #[m], argTypes := #[t] }) (ht : P.underlying t = some (.map kt et)) (hm : a.eval m = .map (some b))
    (hat : MapAt w b kv L) (hK : wpList P ops Q rest (a.put o.dst (.int .i64 L.length)) w) : wpList P ops Q (o :: rest) a w := by
  refine wpList_plain hg fun K' hK' => ?_
  obtain ⟨B, c, hl, hb, _⟩ := hat
  have hg : (getObj b).run P w = .ok (.map ((L.zip B).map fun x => ({ key := kv x.1.1, val := x.1.2, born := x.2 } : MapEntry)).toArray c) w := by simp [getObj, Sem.run, hb]
  have hu : (underlying t).run P w = .ok (.map kt et) w := by simp [underlying, program, Sem.run, ht]
  unfold Oper.wp
  simp [execOp, hop, resolve, invoke, builtin, Builtin.len_, hm, hg, hu, Result.andThen, goInt]
  rw [hl, Nat.min_self]
  exact hK' _ _ hK
theorem Keep.grown {w w' : World} {r : Option Nat} (h : w.grownBy w' r) : Keep w w' (fun b => some b = r) :=
  ⟨h.size, fun b hb hn => h.block b hb hn, h.os, h.tape, h.output⟩
end
def BytesIn (w : World) (v : Value) (l : List Int) (D : Nat → Prop) : Prop :=
  (∀ c ∈ l, 0 ≤ c ∧ c < 256) ∧ ∃ a cap, v = .slice a l.length cap ∧ (l = [] ∨ ∃ b off, a = some ⟨b, off, none⟩ ∧ ¬ D b ∧ ∀ i, i < l.length → w.cell? ⟨b, off + i, none⟩ = some (.int .u8 (l.getD i 0)))
theorem BytesIn.keep {w w' : World} {v : Value} {l : List Int} {D S : Nat → Prop} (h : BytesIn w v l D) (k : Keep w w' S) (hs : ∀ b, S b → D b) : BytesIn w' v l D := by
  obtain ⟨h1, a, cap, h2, h3⟩ := h
  refine ⟨h1, a, cap, h2, h3.imp id ?_⟩
  rintro ⟨b, off, h4, h5, h6⟩
  exact ⟨b, off, h4, h5, fun i hi => k.cell (h6 i hi) (fun q => h5 (hs b q))⟩
theorem BytesIn.mono {w : World} {v : Value} {l : List Int} {D S : Nat → Prop} (h : BytesIn w v l D) (hs : ∀ b, S b → D b) : BytesIn w v l S := by
  obtain ⟨h1, a, cap, h2, h3⟩ := h
  refine ⟨h1, a, cap, h2, h3.imp id ?_⟩
  rintro ⟨b, off, h4, h5, h6⟩
  exact ⟨b, off, h4, fun q => h5 (hs b q), h6⟩
theorem BytesIn.of_own {w : World} {base : Nat} {e : TypeId} {v : Value} {n : Nat} {l : List Int} {D : Nat → Prop} (h : w.ownsRow base e 1 v n (l.map (Value.int .u8))) (hl : ∀ c ∈ l, 0 ≤ c ∧ c < 256) (hD : ∀ b, some b = v.ownBlock → ¬ D b) : BytesIn w v l D := by
  obtain ⟨h1, h2⟩ := h
  have hn : l.length = n := by simpa using h1
  refine ⟨hl, ?_⟩
  rcases h2 with ⟨rfl, rfl⟩ | ⟨g, cap, cur, rfl, _, hb, hc, _, hs, ht⟩
  · have : l = [] := List.length_eq_zero_iff.1 hn
    subst this
    exact ⟨none, 0, rfl, .inl rfl⟩
  · refine ⟨_, cap, by rw [hn], .inr ⟨g, 0, rfl, hD g rfl, fun i hi => ?_⟩⟩
    rw [cell_blk hb, Nat.zero_add]
    have h3 : (cur.toList.take (n * 1))[i]? = (l.map (Value.int .u8))[i]? := by rw [ht]
    rw [List.getElem?_take_of_lt (by omega)] at h3
    simp only [Array.getElem?_toList] at h3
    rw [h3]
    simp [hi]
theorem own_keep {w w' : World} {base : Nat} {e : TypeId} {sz : Nat} {v : Value} {n : Nat} {xs : List Value} {S : Nat → Prop} (h : w.ownsRow base e sz v n xs) (k : Keep w w' S) (hS : ∀ b, some b = v.ownBlock → ¬ S b) : w'.ownsRow base e sz v n xs := by
  refine ⟨h.1, h.2.imp id ?_⟩
  rintro ⟨g, cap, cur, rfl, h1, h2, h3⟩
  exact ⟨g, cap, cur, rfl, h1, k.get h2 (hS g rfl), h3⟩
end Go.Proofs.YtoanccechefclaaGreatDoor
