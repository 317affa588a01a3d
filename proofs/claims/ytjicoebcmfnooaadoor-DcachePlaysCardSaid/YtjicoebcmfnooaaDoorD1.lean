/-
  The cache in memory; the contracts of its calls but Forget.
-/
import Derived.Test.YtjicoebcmfnooaaDoorDPure
import Derived.Test.YtjicoebcmfnooaaDoorShelf
import Derived.Lib.LaidTab
import Derived.Deep.QuietTactic
import Derived.BigQuiet
import Derived.IntWalk
namespace Go.Proofs.YtjicoebcmfnooaaDoor
open Go Go.RowKit Go.Shelf
set_option linter.unusedSectionVars false
set_option linter.unusedSimpArgs false
set_option linter.unusedVariables false
set_option maxRecDepth 100000
attribute [local go_sem] Oper.semAt_some

/-- The table that the library reads. -/
def Pw (w : World) : Prop := Lib.TabIs Tryd.prog w "internal/strconv.uint64pow10" .u64 Lib.pow10Tab

theorem Pw.keep {w w' : World} (h : Pw w) (kk : Keep w w' (fun _ => False)) : Pw w' := by
  unfold Pw Lib.TabIs World.var? at *
  cases hg : Tryd.prog.globalNamed "internal/strconv.uint64pow10" with
  | none => rw [hg] at h; cases h
  | some g =>
    rw [hg] at h
    simp only [Option.bind_some] at h ⊢
    cases hb : w.heap[g]? with
    | none => rw [hb] at h; cases h
    | some o => rw [kk.get hb (fun q => q), ← hb]; exact h

theorem grow_keepD (w : World) (k : Nat) (os : Array Obj) : Keep w (Go.Sort.grow (w.drewN k) os) (fun _ => False) := by
  have h : (w.drewN k).heap = w.heap := rfl
  refine ⟨?_, fun b hb _ => ?_, rfl, rfl, rfl⟩
  · show w.heap.size ≤ (w.heap ++ os).size
    simp
  · show (w.heap ++ os)[b]? = w.heap[b]?
    rw [Array.getElem?_append_left hb]

theorem strB_appendD (l m : Bs) : strB l ++ strB m = strB (l ++ m) := by
  apply ByteArray.ext
  simp [strB]

theorem key_c (d : Int) (s : ByteArray) (w : World) (hp : Pw w) (h0 : -9223372036854775808 ≤ d) (h1 : d ≤ 9223372036854775807) (hs : s.size ≤ 9000000000000000000) :
    Calls Tryd.prog 23 #[.int .i64 d, .string s] w fun e w' => e = .returned (.string (keyB d s)) ∧ Keep w w' (fun _ => False) := by
  have hit : Calls Tryd.prog 37 #[.int .i64 d] w fun e w' => e = .returned (.string (strB (Lib.itoa d))) ∧ Keep w w' (fun _ => False) := by
    refine (Tryd.strconv_Itoa d h0 h1 w hp).mono ?_
    rintro e w' ⟨rfl, kk, os, rfl⟩
    exact ⟨rfl, grow_keepD _ _ _⟩
  have hl := Lib.itoa_length_le d h0 h1
  obtain ⟨T, hT⟩ : ∃ T, T = strB (Lib.itoa d) := ⟨_, rfl⟩
  have hTs : T.size ≤ 21 := by rw [hT, strB_size]; exact hl
  have HT := Lib.hid (show keyB d s = T ++ ⟨#[47]⟩ ++ s by
    unfold keyB keyL
    rw [hT, show (⟨#[47]⟩ : ByteArray) = strB [47] from rfl, strB_appendD]
    conv => rhs; rw [← strB_bsOf s]
    rw [strB_appendD]
    congr 1
    simp)
  rw [← hT] at hit
  have g1 : ¬ 9223372036854775807 < T.size + 1 := by omega
  have g2 : ¬ 9223372036854775807 < T.size + 1 + s.size := by omega
  clear hT hl
  go_enter Tryd.func23, Tryd.ntmps23
  go_wp2_with (
    go_at_call 37
    refine hit.mono ?_
    rintro e w1 ⟨rfl, hk⟩
    have K := Lib.hid hk
    clear hk)
  go_ret
  exact ⟨by rw [HT.out]; rfl, K.out⟩

theorem index_slash (A s : Bs) (hA : (47 : UInt8) ∉ A) : Lib.indexByte (A ++ 47 :: s) 47 = A.length := by
  induction A with
  | nil => rfl
  | cons a r ih =>
    have ha : (a == (47 : UInt8)) = false := by
      simp only [beq_eq_false_iff_ne]
      intro e
      exact hA (by rw [e]; simp)
    have hr := ih (fun q => hA (by simp [q]))
    rw [List.cons_append, Lib.indexByte, hr, ha]
    simp only [Bool.false_eq_true, if_false]
    have : ((r.length : Int) == -1) = false := by simp
    rw [this]
    simp

theorem extract_strBD (l : Bs) (a b : Nat) : (strB l).extract a b = strB ((l.drop a).take (b - a)) := by
  apply ByteArray.ext
  rw [ByteArray.data_extract]
  show (l.toArray).extract a b = ((l.drop a).take (b - a)).toArray
  apply Array.ext'
  simp

set_option maxHeartbeats 1000000 in
theorem scut_c (d : Int) (s : ByteArray) (w : World) (h0 : -9223372036854775808 ≤ d) (h1 : d ≤ 9223372036854775807) (hs : s.size ≤ 9000000000000000000) :
    Calls Tryd.prog 41 #[.string (keyB d s), .string ⟨#[47]⟩] w fun e w' => (∃ u, e = .returned (.tuple #[.string u, .string s, .bool true])) ∧ Keep w w' (fun _ => False) := by
  have hi := Tryd.stringslite_Index_one (keyB d s) 47 w
  have e1 : (keyB d s).data.toList = Lib.itoa d ++ 47 :: bsOf s := rfl
  rw [e1, index_slash _ _ (itoa_slash d)] at hi
  have hl := Lib.itoa_length_le d h0 h1
  obtain ⟨n, hn⟩ : ∃ n, n = (Lib.itoa d).length := ⟨_, rfl⟩
  rw [← hn] at hi hl
  obtain ⟨X, hX⟩ : ∃ X, X = keyB d s := ⟨_, rfl⟩
  have hXs : X.size = n + 1 + s.size := by
    rw [hX]
    unfold keyB keyL
    rw [strB_size, List.length_append, List.length_cons, bsOf_len, hn]
    omega
  have HE := Lib.hid (show X.extract (n + 1) X.size = s by
    rw [hXs, hX]
    unfold keyB keyL
    rw [extract_strBD]
    have e2 : (Lib.itoa d ++ 47 :: bsOf s).drop (n + 1) = bsOf s := by
      rw [hn, ← List.drop_drop, List.drop_left]
      rfl
    rw [e2, List.take_of_length_le (by rw [bsOf_len]; omega), strB_bsOf])
  rw [← hX] at hi ⊢
  have i1 : (0 : Int) ≤ (n : Int) := by omega
  have i2 : (n : Int) + 1 ≤ (X.size : Int) := by omega
  have i3 : (n : Int) ≤ (X.size : Int) := by omega
  have i4 : IntKind.i64.wrap ((n : Int) + 1) = (n : Int) + 1 := IntWalk.i64_in _ (by omega)
  have i5 : (0 : Int) ≤ (n : Int) + 1 := by omega
  have i6 : ((n : Int) + 1).toNat = n + 1 := by omega
  have i7 : n + 1 ≤ X.size := by omega
  have i8 : n ≤ X.size := by omega
  clear hn hX e1 hXs
  go_enter Tryd.func41, Tryd.ntmps41
  go_wp2_with (
    go_at_call 52
    refine hi.mono ?_
    rintro e w1 ⟨rfl, rfl⟩)
  go_quiet (fail)
  go_wp2
  refine bodyPost_ret (v := .tuple #[.string (X.extract 0 n), .string (X.extract (n + 1) X.size), .bool true]) (by simp [results, Tryd.results41, go_sem]) rfl ⟨⟨X.extract 0 n, by rw [HE.out]⟩, ?_⟩
  exact ⟨Nat.le_refl _, fun _ _ _ => rfl, rfl, rfl, rfl⟩

end Go.Proofs.YtjicoebcmfnooaaDoor
