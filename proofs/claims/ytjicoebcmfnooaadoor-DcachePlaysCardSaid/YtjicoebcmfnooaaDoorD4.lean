/-
  The laws' own runs (known); asks that came in; what was put last.
-/
import Derived.Test.YtjicoebcmfnooaaDoorD3
import Derived.Test.YtjicoebcmfnooaaDoorArgs
namespace Go.Proofs.YtjicoebcmfnooaaDoor
open Go Go.RowKit Go.Shelf
set_option linter.unusedSectionVars false
set_option linter.unusedSimpArgs false
set_option linter.unusedVariables false
set_option maxRecDepth 100000
attribute [local go_sem] Oper.semAt_some

def nmA (d : Int) : Nm := (d, ⟨#[97]⟩)
theorem kd1 : putA 2 [] (nmA 1) 5 = ([(nmA 1, 5)], ByteArray.empty) := by kernel_rfl
theorem kd2 : getA [(nmA 1, 5)] (nmA 1) = ([(nmA 1, 5)], 2, 5) := by kernel_rfl
theorem kd3 : putA 2 [(nmA 1, 5)] (nmA 1) 0 = ([(nmA 1, 0)], ByteArray.empty) := by kernel_rfl
theorem kd4 : getA [(nmA 1, 0)] (nmA 1) = ([(nmA 1, 0)], 3, 0) := by kernel_rfl
theorem kd5 : getA [(nmA 1, 0)] (nmA 2) = ([(nmA 1, 0)], 1, 0) := by kernel_rfl

/-- A cache that lies in memory of its own. -/
structure CurD (W w : World) (cb : Nat) (S : Nat → Prop) (most : Int) (A : Mem) : Prop where
  keep : Keep W w (fun _ => False)
  cache : CacheAt w cb S most A
  own : ∀ b, S b → W.heap.size ≤ b

theorem CurD.turn {W w w' : World} {cb : Nat} {S S' : Nat → Prop} {most : Int} {A A' : Mem} (c : CurD W w cb S most A) (h : CacheAt w' cb S' most A') (t : Turn w S w' S') : CurD W w' cb S' most A' :=
  ⟨c.keep.trans t.keep (fun b q => .inr (c.own b q)), h, fun b q => (t.new b q).elim (c.own b) (fun z => Nat.le_trans c.keep.size z)⟩
theorem CurD.aside {W w w' : World} {cb : Nat} {S : Nat → Prop} {most : Int} {A : Mem} (c : CurD W w cb S most A) (k : Keep w w' (fun _ => False)) : CurD W w' cb S most A :=
  ⟨c.keep.trans k (fun _ q => q.elim), c.cache.aside k, c.own⟩
theorem CurD.made {W w w' : World} {cb : Nat} {S : Nat → Prop} {most : Int} {A : Mem} (k : Keep W w (fun _ => False)) (h : CacheAt w' cb S most A) (t : Turn w (fun _ => False) w' S) : CurD W w' cb S most A :=
  ⟨k.trans t.keep (fun _ q => q.elim), h, fun b q => (t.new b q).elim (fun z => z.elim) (fun z => Nat.le_trans k.size z)⟩
theorem CurD.below {W w : World} {cb : Nat} {S : Nat → Prop} {most : Int} {A : Mem} (c : CurD W w cb S most A) : Below W.heap.size W w := c.keep.below (Nat.le_refl _) (fun _ q => q.elim)

theorem one_small : (-9223372036854775808 ≤ (1 : Int) ∧ (1 : Int) ≤ 9223372036854775807) ∧ (⟨#[97]⟩ : ByteArray).size ≤ 9000000000000000000 := by decide
theorem two_small : (-9223372036854775808 ≤ (2 : Int) ∧ (2 : Int) ≤ 9223372036854775807) ∧ (⟨#[97]⟩ : ByteArray).size ≤ 9000000000000000000 := by decide

set_option maxHeartbeats 2000000 in
theorem knownD_c (w : World) (hp : Pw w) : Calls Tryd.prog 12 #[] w fun r w' => r = .returned (.bool true) ∧ Keep w w' (fun _ => False) := by
  have hn := dnew_c w 2 (by omega) (by omega)
  have HP := Lib.hid hp
  clear hp
  go_enter Tryd.func12, Tryd.ntmps12
  go_wp2_with fail
  refine hn.mono ?_
  rintro e w1 ⟨cb, S1, rfl, hL1, hT1⟩
  have c1 := CurD.made (Keep.refl w _) hL1 hT1
  have hu := dput_c hL1 (HP.out.keep c1.keep) 1 ⟨#[97]⟩ 5 one_small
  rw [show putA 2 [] (1, (⟨#[97]⟩ : ByteArray)) 5 = _ from kd1] at hu
  have B1 := Lib.hid c1
  clear hL1 hT1 hn c1
  go_wp2_with fail
  refine hu.mono ?_
  rintro e w2 ⟨rfl, S2, hL2, hT2⟩
  have c2 := B1.out.turn hL2 hT2
  have hu := dget_c hL2 (HP.out.keep c2.keep) 1 ⟨#[97]⟩ one_small
  rw [show getA [(nmA 1, 5)] (1, (⟨#[97]⟩ : ByteArray)) = _ from kd2] at hu
  have B2 := Lib.hid c2
  clear hL2 hT2 B1 c2
  go_wp2_with fail
  refine hu.mono ?_
  rintro e w3 ⟨rfl, S3, hL3, hT3⟩
  have c3 := B2.out.turn hL3 hT3
  have hu := dput_c hL3 (HP.out.keep c3.keep) 1 ⟨#[97]⟩ 0 one_small
  rw [show putA 2 [(nmA 1, 5)] (1, (⟨#[97]⟩ : ByteArray)) 0 = _ from kd3] at hu
  have B3 := Lib.hid c3
  clear hL3 hT3 B2 c3
  go_wp2_with fail
  refine hu.mono ?_
  rintro e w4 ⟨rfl, S4, hL4, hT4⟩
  have c4 := B3.out.turn hL4 hT4
  have hu := dget_c hL4 (HP.out.keep c4.keep) 1 ⟨#[97]⟩ one_small
  rw [show getA [(nmA 1, 0)] (1, (⟨#[97]⟩ : ByteArray)) = _ from kd4] at hu
  have B4 := Lib.hid c4
  clear hL4 hT4 B3 c4
  go_wp2_with fail
  refine hu.mono ?_
  rintro e w5 ⟨rfl, S5, hL5, hT5⟩
  have c5 := B4.out.turn hL5 hT5
  have hu := dget_c hL5 (HP.out.keep c5.keep) 2 ⟨#[97]⟩ two_small
  rw [show getA [(nmA 1, 0)] (2, (⟨#[97]⟩ : ByteArray)) = _ from kd5] at hu
  have B5 := Lib.hid c5
  clear hL5 hT5 B4 c5
  go_wp2_with fail
  refine hu.mono ?_
  rintro e w6 ⟨rfl, S6, hL6, hT6⟩
  have B6 := Lib.hid (B5.out.turn hL6 hT6)
  clear hL6 hT6 B5 hu
  go_wp2
  go_ret
  exact ⟨rfl, B6.out.keep⟩

/-! ### asks -/

structure AskD where
  kind : Int
  dir : Int
  n : Int
  name : ByteArray

def AskD.nm (x : AskD) : Nm := (x.dir, x.name)
def AskD.fine (x : AskD) : Prop := (-9223372036854775808 ≤ x.dir ∧ x.dir ≤ 9223372036854775807) ∧ x.name.size ≤ 9000000000000000000
def AskD.cells (x : AskD) : List Value := [.int .i64 x.kind, .int .i64 x.dir, .int .i64 x.n, .string x.name]

/-- Asks that lie in a row. -/
def AsksIn (w : World) (a : Option Addr) (len cap : Nat) (rows : List AskD) : Prop :=
  rows.length = len ∧ len ≤ cap ∧ cap ≤ maxLen ∧ (∀ x ∈ rows, x.fine) ∧ (0 < len → ∃ b off, a = some ⟨b, off, none⟩ ∧ ∀ i x, rows[i]? = some x → w.cell? ⟨b, off + i * 4, none⟩ = some (.int .i64 x.kind) ∧ w.cell? ⟨b, off + i * 4 + 1, none⟩ = some (.int .i64 x.dir) ∧ w.cell? ⟨b, off + i * 4 + 2, none⟩ = some (.int .i64 x.n) ∧ w.cell? ⟨b, off + i * 4 + 3, none⟩ = some (.string x.name))

/-- What was asked of a name last. -/
def lastOf (P : List AskD) (x : Nm) : Option AskD := P.reverse.find? fun y => decide (y.nm = x)

theorem lastOf_snoc (P : List AskD) (y : AskD) (x : Nm) : lastOf (P ++ [y]) x = if y.nm = x then some y else lastOf P x := by
  unfold lastOf
  rw [List.reverse_append]
  simp only [List.reverse_cons, List.reverse_nil, List.nil_append, List.singleton_append, List.find?_cons]
  by_cases h : y.nm = x <;> simp [h]

/-- What is remembered is what was put last. -/
def Rem (P : List AskD) (A : Mem) : Prop := ∀ x v, aget A x = some v → ∃ y, lastOf P x = some y ∧ y.n = v ∧ y.kind ≠ 3

theorem Rem.get {P : List AskD} {A : Mem} (h : Rem P A) (hn : (A.map Prod.fst).Nodup) (x : Nm) : Rem P (getA A x).1 := by
  unfold getA
  cases hg : aget A x with
  | none => exact h
  | some v =>
    intro z u hz
    rw [aget_touch hn] at hz
    split at hz
    · rename_i e
      subst e
      cases hz
      exact h _ _ hg
    · exact h _ _ hz

/-- A name is put, and dropped again where the ask says so. -/
theorem Rem.put {P : List AskD} {A : Mem} {most : Int} (h : Rem P A) (hn : (A.map Prod.fst).Nodup) (y : AskD) (x : Nm) (v : Int) (hx : aget (putA most A y.nm y.n).1 x = some v) : (x = y.nm ∧ v = y.n) ∨ (x ≠ y.nm ∧ ∃ z, lastOf (P ++ [y]) x = some z ∧ z.n = v ∧ z.kind ≠ 3) := by
  have hsub : ∀ B : Mem, (∀ x v, aget B x = some v → aget (touch A y.nm y.n) x = some v) → aget B x = some v → (x = y.nm ∧ v = y.n) ∨ (x ≠ y.nm ∧ ∃ z, lastOf (P ++ [y]) x = some z ∧ z.n = v ∧ z.kind ≠ 3) := by
    intro B hB hx
    have h1 := hB _ _ hx
    rw [aget_touch hn] at h1
    split at h1
    · rename_i e
      cases h1
      exact .inl ⟨e.symm, rfl⟩
    · rename_i e
      refine .inr ⟨fun q => e q.symm, ?_⟩
      rw [lastOf_snoc, if_neg e]
      exact h _ _ h1
  unfold putA at hx
  split at hx
  · exact hsub _ (fun _ _ q => q) hx
  · refine hsub _ ?_ hx
    intro z u hz
    have hnd := touch_nodup hn y.nm y.n
    cases ht : touch A y.nm y.n with
    | nil => rw [ht] at hz; simp [aget] at hz
    | cons w r =>
      rw [ht] at hz hnd
      have := aget_tail hnd z
      rw [List.drop_succ_cons, List.drop_zero] at hz
      rw [hz] at this
      split at this
      · cases this
      · exact this.symm

theorem Rem.stay {P : List AskD} {A : Mem} {most : Int} (h : Rem P A) (hn : (A.map Prod.fst).Nodup) (y : AskD) (hk : y.kind ≠ 3) : Rem (P ++ [y]) (putA most A y.nm y.n).1 := by
  intro x v hx
  rcases h.put hn y x v hx with ⟨rfl, rfl⟩ | ⟨_, q⟩
  · exact ⟨y, by rw [lastOf_snoc, if_pos rfl], rfl, hk⟩
  · exact q

theorem Rem.gone {P : List AskD} {A : Mem} {most : Int} (h : Rem P A) (hok : Mem.ok most A) (y : AskD) : Rem (P ++ [y]) (dropA (putA most A y.nm y.n).1 y.nm).1 := by
  intro x v hx
  have hx' : aget (adel (putA most A y.nm y.n).1 y.nm) x = some v := hx
  rw [aget_adelA (hok.put y.nm y.n).nodup] at hx'
  split at hx'
  · cases hx'
  · rename_i e
    rcases h.put hok.nodup y x v hx' with ⟨q, _⟩ | ⟨_, q⟩
    · exact absurd q.symm e
    · exact q

theorem get_says {P : List AskD} {A : Mem} (h : Rem P A) (x : Nm) {A' : Mem} {av bv : Int} (e : getA A x = (A', av, bv)) : (av = 1 ∧ bv = 0) ∨ ∃ z, lastOf P x = some z ∧ z.kind ≠ 3 ∧ ((z.n ≤ 0 ∧ av = 3 ∧ bv = 0) ∨ (0 < z.n ∧ av = 2 ∧ bv = z.n)) := by
  unfold getA at e
  cases hg : aget A x with
  | none =>
    rw [hg] at e
    simp only [Prod.mk.injEq] at e
    exact .inl ⟨e.2.1.symm, e.2.2.symm⟩
  | some v =>
    rw [hg] at e
    obtain ⟨z, h1, h2, h3⟩ := h x v hg
    refine .inr ⟨z, h1, h3, ?_⟩
    rw [h2]
    by_cases hv : v ≤ 0
    · simp only [if_pos hv, Prod.mk.injEq] at e
      exact .inl ⟨hv, e.2.1.symm, e.2.2.symm⟩
    · simp only [if_neg hv, Prod.mk.injEq] at e
      exact .inr ⟨by omega, e.2.1.symm, e.2.2.symm⟩

theorem lastOf_newest {rows : List AskD} {k q j : Nat} {x z : AskD} (hx : rows[k]? = some x) (hz : rows[q]? = some z) (hkq : z.nm = x.nm) (hlt : ∀ m y, q < m → m < j → rows[m]? = some y → y.nm ≠ x.nm) (hq : q < j) (hj : j ≤ rows.length) : lastOf (rows.take j) x.nm = some z := by
  induction j with
  | zero => omega
  | succ j ih =>
    have hj' : j < rows.length := by omega
    rw [List.take_succ_eq_append_getElem hj', lastOf_snoc]
    by_cases e : q = j
    · subst e
      have : rows[q] = z := by
        rw [List.getElem?_eq_getElem hj'] at hz
        exact Option.some.inj hz
      rw [this, if_pos hkq]
    · rw [if_neg (hlt j _ (by omega) (by omega) (List.getElem?_eq_getElem hj'))]
      exact ih (fun m y h1 h2 h3 => hlt m y h1 (by omega) h3) (by omega) (by omega)

end Go.Proofs.YtjicoebcmfnooaaDoor
