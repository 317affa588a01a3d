/-
  Parts of the walk's proof: PlayPath, Acts, WKnown, WalkSteps. (joined by pack.py)
-/
import Derived.Outline
import Derived.Below
import Derived.Deep.Cut
import Derived.Test.YtoanccechefclaaGreatDoorK17
import Derived.Test.YtoanccechefclaaGreatDoorK21
import Derived.Test.YtoanccechefclaaGreatDoorK23
import Derived.Test.YtoanccechefclaaGreatDoorK26
import Derived.Test.YtoanccechefclaaGreatDoorK27
import Derived.Test.YtoanccechefclaaGreatDoorK32
set_option linter.unusedSectionVars false
set_option linter.unusedSimpArgs false
set_option linter.unusedVariables false
namespace Go.Proofs.YtoanccechefclaaGreatDoor
open Go Go.RowKit Go.Shelf
set_option maxRecDepth 100000
attribute [local go_sem] Oper.semAt_some
def pathL : List Bl := [[97], [98], [99], [108], [46, 46], [46], [47], [47, 47], [122, 122]]
theorem pathL_ok : ∀ q ∈ pathL, q ≠ [] ∧ q.length ≤ 2 ∧ (0 : UInt8) ∉ q := by decide +kernel
theorem rowL_at {W : World} {b : Nat} {l : List Bl} {t : TypeId} (h : W.heap[b]? = some (.cells (l.map fun q => Value.string (txB q)).toArray t (0, 0))) {m : Int} (h0 : 0 ≤ m) (h1 : m < l.length) : ∃ q ∈ l, W.cell? ⟨b, m.toNat, none⟩ = some (.string (txB q)) := by
  have h2 : m.toNat < l.length := by omega
  refine ⟨l[m.toNat], List.getElem_mem h2, ?_⟩
  rw [cell_blk h]
  simp [h2]
theorem byte_atP {X : ByteArray} {l : Bl} (hX : X = txB l) {k : Nat} (h : k < X.size) : ∃ u : UInt8, l[k]? = some u ∧ (X[k]'h).toNat = u.toNat := by
  subst hX
  have hk : k < l.length := by rw [← txB_size]; exact h
  exact ⟨l[k], List.getElem?_eq_getElem hk, rfl⟩
set_option maxHeartbeats 4000000 in
theorem path_c (a : Option Addr) (n cap : Nat) (zs : List Int) (w : World) (h : NumsIs .i64 w a n cap zs) :
    Calls Tryz.prog 14 #[.slice a n cap] w fun r w' => ∃ l : Bl, r = .returned (.string (txB l)) ∧ PathOk l ∧ Keep w w' (fun _ => False) := by
  have hmx : n ≤ 9223372036854775807 := by have e2 := h.2.1; unfold maxLen at e2; omega
  have HL := Lib.hid h
  clear h
  go_enter Tryz.func14, Tryz.ntmps14
  go_upto_region 3 with (fail)
  obtain ⟨W, hW⟩ : ∃ W, W = w.alloc (.cells (pathL.map fun q => Value.string (txB q)).toArray 9) := ⟨_, rfl⟩
  have kW : Keep w W (fun _ => False) := by rw [hW]; exact Keep.alloc _ _ _
  have bW : W.heap[w.heap.size]? = some (.cells (pathL.map fun q => Value.string (txB q)).toArray 9 (0, 0)) := by rw [hW]; exact heap_alloc_eq w _
  rw [show w.alloc (.cells #[.string ⟨#[97]⟩, .string ⟨#[98]⟩, .string ⟨#[99]⟩, .string ⟨#[108]⟩, .string ⟨#[46, 46]⟩, .string ⟨#[46]⟩, .string ⟨#[47]⟩, .string ⟨#[47, 47]⟩, .string ⟨#[122, 122]⟩] 9) = W from hW.symm]
  have HW := Lib.hid (And.intro kW bW)
  clear kW bW hW
  go_wp2_with fail
  go_loopg [3, 5] 12 (fun g s3 s5 wr => ∃ (k : Nat) (l : Bl), s5 = .int .i64 k ∧ k + g = 12 ∧ s3 = .string (txB l) ∧ l.length ≤ 3 * k ∧ (0 : UInt8) ∉ l ∧ (0 < k → l ≠ []) ∧ wr = W)
  case atStart => exact ⟨0, [], rfl, rfl, rfl, by simp, by simp, by omega, rfl⟩
  case round =>
    obtain ⟨k, l, rfl, hk, rfl, hl, h0, hne, rfl⟩ := hrel
    have hsz := txB_size l
    obtain ⟨X, hX⟩ : ∃ X, X = txB l := ⟨_, rfl⟩
    rw [← hX] at hsz ⊢
    have HX := Lib.hid (And.intro hX (And.intro hl (And.intro h0 hne)))
    clear hX h0 hne
    by_cases hgo : k < n ∧ k < 12
    · obtain ⟨hlk, hl12⟩ := hgo
      have g3 : (k : Int) < (n : Int) := by omega
      have g4 : (k : Int) < 12 := by omega
      obtain ⟨z, hz⟩ : ∃ z, zs[k]? = some z := ⟨_, List.getElem?_eq_getElem (by rw [HL.out.1]; exact hlk)⟩
      obtain ⟨bo, off, rfl, hbo, hcells⟩ := HL.out.2.2.1.some (by rw [List.length_map, HL.out.1]; omega)
      have hcy := HW.out.1.cell (hcells k _ (mapGet (f := Value.int .i64) hz)) (fun q => q)
      have hzb := bounds_i64 (HL.out.2.2.2 z (List.mem_of_getElem? hz))
      obtain ⟨m, hm0, hm1, hmc⟩ := small_u z 9 (by decide) (by decide) (by omega) (by omega)
      obtain ⟨q, hq, hqc⟩ := rowL_at HW.out.2 hm0 hm1
      obtain ⟨q1, q2, q3⟩ := pathL_ok q hq
      clear hcells hz hzb hbo hq
      obtain ⟨Y, hY⟩ : ∃ Y, Y = txB q := ⟨_, rfl⟩
      rw [← hY] at hqc
      have hYs := txB_size q
      rw [← hY] at hYs
      have hY0 : 0 < Y.size := by rw [hYs]; exact List.length_pos_iff.2 q1
      obtain ⟨u, hu, hc⟩ := byte_atP hY hY0
      obtain ⟨c, hcc⟩ : ∃ c, c = u.toNat := ⟨_, rfl⟩
      rw [← hcc] at hc
      have HY := Lib.hid (And.intro hY (And.intro q1 (And.intro q2 q3)))
      clear hY q1 q3 hu hcc
      have hYl : Y.size ≤ 2 := by omega
      have hXl : X.size ≤ 3 * k := by omega
      clear hYs q2
      have fin : ∀ l2 : Bl, l2.length ≤ l.length + 1 → (0 : UInt8) ∉ l2 → (l2 ++ q).length ≤ 3 * (k + 1) ∧ (0 : UInt8) ∉ l2 ++ q ∧ (0 < k + 1 → l2 ++ q ≠ []) := fun l2 e1 e2 =>
        ⟨by rw [List.length_append]; have := HY.out.2.2.1; omega, fun e => (List.mem_append.1 e).elim e2 HY.out.2.2.2, fun _ e => HY.out.2.1 (List.append_eq_nil_iff.1 e).2⟩
      have FIN := Lib.hid fin
      clear fin
      by_cases hk0 : 0 < k
      · have hl1 : 1 ≤ l.length := by have := HX.out.2.2.2 hk0; exact List.length_pos_iff.2 this
        by_cases hc47 : c = 47
        · have gc : ((c : Int) != 47) = false := by simp [hc47]
          clear hc47
          go_wp2_with (
            go_at_call 53
            refine (hmc _).mono ?_
            rintro e w9 ⟨rfl, rfl⟩)
          go_roundg (12 - (k + 1))
          case measure => omega
          case rel =>
            refine ⟨k + 1, l ++ q, rfl, by omega, ?_, (FIN.out l (by omega) HX.out.2.2.1).1, (FIN.out l (by omega) HX.out.2.2.1).2.1, (FIN.out l (by omega) HX.out.2.2.1).2.2, rfl⟩
            rw [HX.out.1, HY.out.1, txB_append]
        · have gc : ((c : Int) != 47) = true := by simp; omega
          have hix : l.length - 1 < X.size := by omega
          obtain ⟨v, hv, hd⟩ := byte_atP HX.out.1 hix
          obtain ⟨d, hdd⟩ : ∃ d, d = v.toNat := ⟨_, rfl⟩
          rw [← hdd] at hd
          have gi : 1 ≤ (l.length : Int) ∧ (l.length : Int) - 1 < (l.length : Int) := ⟨by omega, by omega⟩
          clear hc47 hv hdd
          by_cases hd47 : d = 47
          · have gd : ((d : Int) != 47) = false := by simp [hd47]
            clear hd47
            go_wp2_with (
              go_at_call 53
              refine (hmc _).mono ?_
              rintro e w9 ⟨rfl, rfl⟩)
            go_roundg (12 - (k + 1))
            case measure => omega
            case rel =>
              refine ⟨k + 1, l ++ q, rfl, by omega, ?_, (FIN.out l (by omega) HX.out.2.2.1).1, (FIN.out l (by omega) HX.out.2.2.1).2.1, (FIN.out l (by omega) HX.out.2.2.1).2.2, rfl⟩
              rw [HX.out.1, HY.out.1, txB_append]
          · have gd : ((d : Int) != 47) = true := by simp; omega
            clear hd47
            go_wp2_with (
              go_at_call 53
              refine (hmc _).mono ?_
              rintro e w9 ⟨rfl, rfl⟩)
            go_roundg (12 - (k + 1))
            case measure => omega
            case rel =>
              have h7 : (l ++ [47]).length ≤ l.length + 1 := by simp
              have h8 : (0 : UInt8) ∉ l ++ [47] := by have := HX.out.2.2.1; simp; exact this
              refine ⟨k + 1, (l ++ [47]) ++ q, rfl, by omega, ?_, (FIN.out _ h7 h8).1, (FIN.out _ h7 h8).2.1, (FIN.out _ h7 h8).2.2, rfl⟩
              rw [HX.out.1, HY.out.1, ← txB_append, ← txB_append]
              rfl
      · go_wp2_with (
          go_at_call 53
          refine (hmc _).mono ?_
          rintro e w9 ⟨rfl, rfl⟩)
        go_roundg (12 - (k + 1))
        case measure => omega
        case rel =>
          refine ⟨k + 1, l ++ q, rfl, by omega, ?_, (FIN.out l (by omega) HX.out.2.2.1).1, (FIN.out l (by omega) HX.out.2.2.1).2.1, (FIN.out l (by omega) HX.out.2.2.1).2.2, rfl⟩
          rw [HX.out.1, HY.out.1, txB_append]
    · have g3 : ¬ ((k : Int) < (n : Int) ∧ (k : Int) < 12) := by omega
      have hres : PathOk l := ⟨by omega, HX.out.2.2.1⟩
      have HR := Lib.hid hres
      clear hres
      by_cases hlk : k < n
      · have g4 : (k : Int) < (n : Int) := by omega
        have g5 : ¬ (k : Int) < 12 := by omega
        go_wp2
        go_ret
        exact ⟨l, by rw [HX.out.1]; rfl, HR.out, HW.out.1⟩
      · have g4 : ¬ (k : Int) < (n : Int) := by omega
        go_wp2
        go_ret
        exact ⟨l, by rw [HX.out.1]; rfl, HR.out, HW.out.1⟩
end Go.Proofs.YtoanccechefclaaGreatDoor
namespace Go.Proofs.YtoanccechefclaaGreatDoor
open Go Go.RowKit Go.Shelf
set_option maxRecDepth 100000
abbrev actsT : List FieldKind := [.int .i64, .int .i64, .int .i64, .int .i64, .str, .str, .int .i64, .int .i64, .int .i64, .int .i64, .int .i64, .int .i64, .int .i64, .int .i64, .int .i64]
structure ActAt (w : World) (b o : Nat) (x : ActV) : Prop where
  c0 : w.cell? ⟨b, o, none⟩ = some (.int .i64 x.kind)
  c1 : w.cell? ⟨b, o + 1, none⟩ = some (.int .i64 x.dir)
  c2 : w.cell? ⟨b, o + 2, none⟩ = some (.int .i64 x.to_)
  c3 : w.cell? ⟨b, o + 3, none⟩ = some (.int .i64 x.n)
  c4 : w.cell? ⟨b, o + 4, none⟩ = some (.string x.s)
  c5 : w.cell? ⟨b, o + 5, none⟩ = some (.string x.as_)
  c6 : w.cell? ⟨b, o + 6, none⟩ = some (.int .i64 x.st.node)
  c7 : w.cell? ⟨b, o + 7, none⟩ = some (.int .i64 x.st.kind)
  c8 : w.cell? ⟨b, o + 8, none⟩ = some (.int .i64 x.st.mode)
  c9 : w.cell? ⟨b, o + 9, none⟩ = some (.int .i64 x.st.uid)
  c10 : w.cell? ⟨b, o + 10, none⟩ = some (.int .i64 x.st.gid)
  c11 : w.cell? ⟨b, o + 11, none⟩ = some (.int .i64 x.st.links)
  c12 : w.cell? ⟨b, o + 12, none⟩ = some (.int .i64 x.st.size)
  c13 : w.cell? ⟨b, o + 13, none⟩ = some (.int .i64 x.am)
  c14 : w.cell? ⟨b, o + 14, none⟩ = some (.int .i64 x.an)
theorem ActAt.keep {w w' : World} {b o : Nat} {x : ActV} (h : ActAt w b o x) {S : Nat → Prop} (K : Keep w w' S) (hS : ¬ S b) : ActAt w' b o x :=
  ⟨K.cell h.c0 hS, K.cell h.c1 hS, K.cell h.c2 hS, K.cell h.c3 hS, K.cell h.c4 hS, K.cell h.c5 hS, K.cell h.c6 hS, K.cell h.c7 hS, K.cell h.c8 hS, K.cell h.c9 hS, K.cell h.c10 hS, K.cell h.c11 hS, K.cell h.c12 hS, K.cell h.c13 hS, K.cell h.c14 hS⟩
def ActB (x : ActV) : Prop := ((I64 x.kind) ∧ (I64 x.dir) ∧ (I64 x.to_) ∧ (I64 x.n) ∧ (I64 x.st.kind) ∧ (I64 x.st.mode) ∧ (I64 x.st.uid) ∧ (I64 x.st.gid) ∧ (I64 x.am) ∧ (I64 x.an)) ∧ (x.s.size ≤ 9223372036854775807 ∧ x.as_.size ≤ 9223372036854775807)
theorem i64_of {n : Int} (h : (Lit.int .i64 n).wf = true) : I64 n := by
  have := bounds_i64 h
  exact ⟨by omega, by omega⟩
theorem actsT_at {w : World} {a : Option Addr} {len cap : Nat} (h : StructsIs actsT w a len cap) (h0 : 0 < len) :
    ∃ b off, a = some ⟨b, off, none⟩ ∧ b < w.heap.size ∧ ∀ i, i < len → ∃ x, ActAt w b (off + i * 15) x ∧ ActB x := by
  obtain ⟨b, off, rfl, hb, hf⟩ := h.field h0 (by decide)
  refine ⟨b, off, rfl, hb, fun i hi => ?_⟩
  obtain ⟨v0, c0, n0, rfl, w0⟩ := hf i hi 0 (.int .i64) rfl
  obtain ⟨v1, c1, n1, rfl, w1⟩ := hf i hi 1 (.int .i64) rfl
  obtain ⟨v2, c2, n2, rfl, w2⟩ := hf i hi 2 (.int .i64) rfl
  obtain ⟨v3, c3, n3, rfl, w3⟩ := hf i hi 3 (.int .i64) rfl
  obtain ⟨v4, c4, n4, rfl, w4⟩ := hf i hi 4 .str rfl
  obtain ⟨v5, c5, n5, rfl, w5⟩ := hf i hi 5 .str rfl
  obtain ⟨v6, c6, n6, rfl, w6⟩ := hf i hi 6 (.int .i64) rfl
  obtain ⟨v7, c7, n7, rfl, w7⟩ := hf i hi 7 (.int .i64) rfl
  obtain ⟨v8, c8, n8, rfl, w8⟩ := hf i hi 8 (.int .i64) rfl
  obtain ⟨v9, c9, n9, rfl, w9⟩ := hf i hi 9 (.int .i64) rfl
  obtain ⟨v10, c10, n10, rfl, w10⟩ := hf i hi 10 (.int .i64) rfl
  obtain ⟨v11, c11, n11, rfl, w11⟩ := hf i hi 11 (.int .i64) rfl
  obtain ⟨v12, c12, n12, rfl, w12⟩ := hf i hi 12 (.int .i64) rfl
  obtain ⟨v13, c13, n13, rfl, w13⟩ := hf i hi 13 (.int .i64) rfl
  obtain ⟨v14, c14, n14, rfl, w14⟩ := hf i hi 14 (.int .i64) rfl
  exact ⟨⟨n0, n1, n2, n3, n4, n5, ⟨n6, n7, n8, n9, n10, n11, n12⟩, n13, n14⟩, ⟨c0, c1, c2, c3, c4, c5, c6, c7, c8, c9, c10, c11, c12, c13, c14⟩, ⟨i64_of w0, i64_of w1, i64_of w2, i64_of w3, i64_of w7, i64_of w8, i64_of w9, i64_of w10, i64_of w13, i64_of w14⟩, by unfold maxLen at w4; show n4.size ≤ _; omega, by unfold maxLen at w5; show n5.size ≤ _; omega⟩
theorem txt_of {t : ByteArray} (h : t ∈ textsA ++ namesA) : TxtOk t := by
  have : ∀ t ∈ textsA ++ namesA, (blOf t).length ≤ 9 ∧ (parts (blOf t)).length ≤ 4 := by decide +kernel
  exact this t h
structure LW (W w : World) (xb tb rb mb qb : Nat) (T : TreeV) (V : MountV) (k : Int) (Zw : World) (Z : Nat → Prop) : Prop where
  ps : PS W w tb rb mb qb T V k Zw Z
  zx : Z xb
  box : Zw.heap[xb]? = some (.cells (bothC tb mb rb qb) 31 (0, 0))
section
variable {W w w' : World} {xb tb rb mb qb : Nat} {T T' : TreeV} {V V' : MountV} {k k' : Int} {Zw : World} {Z : Nat → Prop}
theorem LW.aside (h : LW W w xb tb rb mb qb T V k Zw Z) (K : Keep w w' (fun _ => False)) : LW W w' xb tb rb mb qb T V k Zw Z := ⟨h.ps.aside K, h.zx, h.box⟩
theorem LW.more (h : LW W w xb tb rb mb qb T V k Zw Z) (hk : k ≤ k') : LW W w xb tb rb mb qb T V k' Zw Z := ⟨h.ps.more hk, h.zx, h.box⟩
theorem LW.blk (h : LW W w xb tb rb mb qb T V k Zw Z) : w.heap[xb]? = some (.cells (bothC tb mb rb qb) 31 (0, 0)) := h.ps.zkeep.get h.box (fun q => q h.zx)
theorem LW.cells (h : LW W w xb tb rb mb qb T V k Zw Z) : w.cell? ⟨xb, 0, none⟩ = some (.pointer (some ⟨tb, 0, none⟩)) ∧ w.cell? ⟨xb, 1, none⟩ = some (.pointer (some ⟨mb, 0, none⟩)) ∧ w.cell? ⟨xb, 2, none⟩ = some (.pointer (some ⟨rb, 0, none⟩)) ∧ w.cell? ⟨xb, 3, none⟩ = some (.pointer (some ⟨qb, 0, none⟩)) := by
  have hb := h.blk
  exact ⟨by rw [cell_blk hb]; rfl, by rw [cell_blk hb]; rfl, by rw [cell_blk hb]; rfl, by rw [cell_blk hb]; rfl⟩
theorem PS.lw (h : PS W w tb rb mb qb T V k Zw Z) : LW W (w.alloc (.cells (bothC tb mb rb qb) 31)) w.heap.size tb rb mb qb T V k (w.alloc (.cells (bothC tb mb rb qb) 31)) (fun b => b = w.heap.size) := by
  refine ⟨h.zone (Keep.alloc _ _ _) (fun b q => ?_), rfl, heap_alloc_eq w _⟩
  have q' : b = w.heap.size := q
  rw [World.size_alloc]
  omega
theorem LW.do_ (h : LW W w xb tb rb mb qb T V k Zw Z) (hk : k ≤ 90000) (x : ActV) (ho : ActOk x) (ht : x.as_ ∈ textsA ++ namesA) : ∀ w1, Keep w w1 (fun _ => False) →
    Calls Tryz.prog 12 #[.agg (bothC tb mb rb qb), .agg (actC x)] w1 fun e w' => e = .returned (.bool true) ∧ LW W w' xb tb rb mb qb (doV T V x).1 (doV T V x).2 (k + 6) Zw Z := fun w1 K => by
  refine ((h.ps.aside K).do_ hk x ho (txt_of ht)).mono ?_
  rintro e w' ⟨rfl, h2⟩
  exact ⟨rfl, h2, h.zx, h.box⟩
end
theorem NumsIs.aside {w w' : World} {a : Option Addr} {n cap : Nat} {zs : List Int} (h : NumsIs .i64 w a n cap zs) (K : Keep w w' (fun _ => False)) : NumsIs .i64 w' a n cap zs := ⟨h.1, h.2.1, h.2.2.1.aside K, h.2.2.2⟩
end Go.Proofs.YtoanccechefclaaGreatDoor
namespace Go.Proofs.YtoanccechefclaaGreatDoor
open Go Go.RowKit Go.Shelf
set_option maxRecDepth 100000
attribute [local go_sem] Oper.semAt_some
theorem wtop_res {W : World} {b : Nat} {m n : Value} {A : Array Value} (z : W.heap[b]? = some (.cells #[m, n] 38 (0, 0))) (h2 : A.getD 0 undef = .pointer (some ⟨b, 0, none⟩)) :
    (results Tryz.f17 A).run Tryz.prog W = .ok (.agg #[m, n]) W := by
  have y0 : W.cell? ⟨b, 0, none⟩ = some m := by rw [cell_blk z]; rfl
  have y1 : W.cell? ⟨b, 1, none⟩ = some n := by rw [cell_blk z]; rfl
  have h2' : A[0]?.getD undef = .pointer (some ⟨b, 0, none⟩) := by simpa using h2
  simp [results, Tryz.results17, go_sem, h2', y0, y1]
theorem wtop_c (w : World) : Calls Tryz.prog 17 #[] w fun e w' => e = .returned (.agg #[.int .i64 0, .int .i64 1]) ∧ Keep w w' (fun _ => False) := by
  go_enter Tryz.func17, Tryz.ntmps17
  go_upto_region 1 with (fail)
  obtain ⟨w0, hw0⟩ : ∃ w0, w0 = w.alloc (.cells #[.int .i64 0, .int .i64 0] 38) := ⟨_, rfl⟩
  have k0 := Keep.alloc w (.cells #[.int .i64 0, .int .i64 0] 38) (fun _ => False)
  have b0 := heap_alloc_eq w (.cells #[.int .i64 0, .int .i64 0] 38)
  rw [← hw0] at k0 b0 ⊢
  have H := Lib.hid (And.intro k0 b0)
  have y0 : w0.cell? ⟨w.heap.size, 0, none⟩ = some (.int .i64 0) := by rw [cell_blk b0]; rfl
  have y1 : w0.cell? ⟨w.heap.size, 1, none⟩ = some (.int .i64 0) := by rw [cell_blk b0]; rfl
  have f0 := free_blk b0 0
  have f1 := free_blk b0 1
  clear hw0 k0 b0
  go_wp2
  have s := sets_at [(0, .int .i64 0), (1, .int .i64 1)] H.out.2
  have k := sets_keep (b := w.heap.size) [(0, .int .i64 0), (1, .int .i64 1)] w0
  simp only [sets] at s k
  exact bodyPost_ret (wtop_res (b := w.heap.size) (by simpa [setAll] using s) rfl) rfl ⟨rfl, H.out.1.trans k (fun b q => .inr (by have q' : b = w.heap.size := q; omega))⟩
def Q0 : TreeV := TreeV.new 9 0
def Q1 : TreeV := (Q0.make true 1 ka 1 (maskV 0) 0 0 ⟨#[]⟩).1
def QM : MountV := MountV.new 1
theorem q1_make : (Q0.make true 1 ka 1 (maskV 0) 0 0 ⟨#[]⟩).2 = (2, 0) := by decide +kernel
theorem q_w1 : walkP (wkE Q0 QM ⟨0, 0⟩ true) 0 1 [47, 97, 47, 98] = (FoundV.zero, 32, 1) := by kernel_rfl
theorem q_w2 : walkP (wkE Q1 QM ⟨0, 0⟩ true) 0 1 [47, 97, 47, 98] = (⟨0, 2, kb, 0, 0, false, false⟩, 0, 2) := by kernel_rfl
theorem q_w3 : walkP (wkE Q1 QM ⟨0, 0⟩ true) 0 1 [47, 46, 46] = (⟨0, 1, ⟨#[]⟩, 0, 1, true, false⟩, 0, 1) := by kernel_rfl
theorem q_t0 : ∀ n, (blOf (Q0.textOf n)).length ≤ 1000 := fun n => by
  have h : TxAll Q0.all := by intro x hx; simp only [Q0, TreeV.new, List.mem_singleton] at hx; rw [hx]; exact txt_empty
  have := (h.textOf n).1; omega
theorem q_t1 : ∀ n, (blOf (Q1.textOf n)).length ≤ 1000 := fun n => by
  have h : TxAll Q0.all := by intro x hx; simp only [Q0, TreeV.new, List.mem_singleton] at hx; rw [hx]; exact txt_empty
  exact Nat.le_trans (TxAll.textOf (T := Q1) (h.make true 1 ka 1 (maskV 0) 0 0 txt_empty) n).1 (by decide)
set_option maxHeartbeats 4000000 in
theorem wknown_c (w : World) : Calls Tryz.prog 15 #[] w fun r w' => r = .returned (.bool true) ∧ Keep w w' (fun _ => False) := by
  go_enter Tryz.func15, Tryz.ntmps15
  go_upto_region 9 with (first
    | (go_at_call 36
       refine (newt_c (Keep.refl w _) 9 0 ⟨by decide, by decide⟩ ⟨by decide, by decide⟩).mono ?_
       rintro e w1 ⟨tb, s0, rfl, c0, -⟩
       have C := Lib.hid c0
       clear c0)
    | (go_at_call 38
       refine (mnew_c _ 1).mono ?_
       rintro e w2 ⟨mb, S1, rfl, hp, ht⟩
       have hw1 := fun w9 (K : Keep w2 w9 (fun _ => False)) => Walk_c (EnvAt.aside (w := w2) (s := s0) (S := S1) (E := wkE Q0 QM ⟨0, 0⟩ true) ⟨C.out.tab.aside ht.keep, C.out.small.mono (by decide), hp⟩ K) q_t0 rfl 0 1 [47, 97, 47, 98] q_w1
       simp only [foundC, FoundV.zero, wkE] at hw1
       have hmk := fun w9 (K : Keep w2 w9 (fun _ => False)) => make_p (C.out.step ht.keep) (by decide) right_a 1 1 0 0 0 ⟨#[]⟩ q1_make (U := Q1) rfl w9 K
       have D := Lib.hid (And.intro hp (fun b (q : s0.has b) (z : S1 b) => show False by have := thas_lt C.out.tab q; have := (ht.new b z).elim (fun y => y.elim) id; omega))
       have C := Lib.hid (C.out.step ht.keep)
       clear hp ht)
    | (go_at_call 17
       refine (wtop_c _).mono ?_
       rintro e w3 ⟨rfl, k3⟩
       replace hw1 := fun w9 (K : Keep w3 w9 (fun _ => False)) => hw1 w9 (k3.aside K)
       replace hmk := fun w9 (K : Keep w3 w9 (fun _ => False)) => hmk w9 (k3.aside K)
       have C := Lib.hid (C.out.step k3)
       have D := Lib.hid (And.intro (D.out.1.aside k3) D.out.2)
       clear k3)
    | (go_at_call 16
       refine (hw1 _ (Keep.refl _ _)).mono ?_
       rintro e w4 ⟨rfl, k4⟩
       have hmk := fun w9 (K : Keep w4 w9 (fun _ => False)) => hmk w9 (k4.aside K)
       have C := Lib.hid (C.out.step k4)
       have D := Lib.hid (And.intro (D.out.1.aside k4) D.out.2)
       clear hw1 k4)
    | (go_at_call 33
       refine (hmk _ ((Keep.refl _ _).aside (Keep.alloc _ _ _))).mono ?_
       rintro e w5 ⟨rfl, s5, c5, t5⟩
       have hT := TableAt.keep (D.out.1.aside ((Keep.refl _ _).aside (Keep.alloc _ _ _))) t5.keep (fun b z q => D.out.2 b q z)
       have hw2 := fun w9 (K : Keep w5 w9 (fun _ => False)) => Walk_c (EnvAt.aside (w := w5) (s := s5) (S := S1) (E := wkE Q1 QM ⟨0, 0⟩ true) ⟨c5.tab, c5.small.mono (by decide), hT⟩ K) q_t1 rfl 0 1 [47, 97, 47, 98] q_w2
       have hw3 := fun w9 (K : Keep w5 w9 (fun _ => False)) => Walk_c (EnvAt.aside (w := w5) (s := s5) (S := S1) (E := wkE Q1 QM ⟨0, 0⟩ true) ⟨c5.tab, c5.small.mono (by decide), hT⟩ K) q_t1 rfl 0 1 [47, 46, 46] q_w3
       simp only [foundC, wkE] at hw2 hw3
       have C := Lib.hid c5
       clear hmk hT t5 c5)
    | (go_at_call 17
       refine (wtop_c _).mono ?_
       rintro e w6 ⟨rfl, k6⟩
       replace hw2 := fun w9 (K : Keep w6 w9 (fun _ => False)) => hw2 w9 (k6.aside K)
       replace hw3 := fun w9 (K : Keep w6 w9 (fun _ => False)) => hw3 w9 (k6.aside K)
       have C := Lib.hid (C.out.step k6)
       clear k6)
    | (go_at_call 17
       refine (wtop_c _).mono ?_
       rintro e w6 ⟨rfl, k6⟩
       have ka := Keep.alloc w7 (.cells #[.int .i64 0, .int .i64 2, .string kb, .int .i64 0, .int .i64 0, .bool false, .bool false] 45) (fun _ => False)
       replace hw3 := fun w9 (K : Keep w6 w9 (fun _ => False)) => hw3 w9 ((ka.aside k6).aside K)
       have C := Lib.hid (C.out.step (ka.aside k6))
       have B7 := Lib.hid (k6.get B7.out (fun q => q))
       clear k6 ka)
    | (go_at_call 17
       refine (wtop_c _).mono ?_
       rintro e w6 ⟨rfl, k6⟩
       replace hw3 := fun w9 (K : Keep w6 w9 (fun _ => False)) => hw3 w9 (k6.aside K)
       have C := Lib.hid (C.out.step k6)
       have B7 := Lib.hid (k6.get B7.out (fun q => q))
       clear k6)
    | (go_at_call 16
       refine (hw2 _ (Keep.refl _ _)).mono ?_
       rintro e w7 ⟨rfl, k7⟩
       replace hw3 := fun w9 (K : Keep w7 w9 (fun _ => False)) => hw3 w9 (k7.aside K)
       have C := Lib.hid (C.out.step k7)
       have B7 := Lib.hid (heap_alloc_eq w7 (.cells #[.int .i64 0, .int .i64 2, .string kb, .int .i64 0, .int .i64 0, .bool false, .bool false] 45))
       clear hw2 k7)
    | (go_at_call 16
       refine (hw3 _ (Keep.refl _ _)).mono ?_
       rintro e w8 ⟨rfl, k8⟩
       have C := Lib.hid (C.out.step k8)
       have B7 := Lib.hid (k8.get B7.out (fun q => q))
       have B8 := Lib.hid (heap_alloc_eq w8 (.cells #[.int .i64 0, .int .i64 1, .string ⟨#[]⟩, .int .i64 0, .int .i64 1, .bool true, .bool false] 45))
       clear hw3 k8))
  have ka := Keep.alloc w8 (.cells #[.int .i64 0, .int .i64 1, .string ⟨#[]⟩, .int .i64 0, .int .i64 1, .bool true, .bool false] 45) (fun _ => False)
  have h7 := ka.get B7.out (fun q => q)
  have h8 := B8.out
  have hC := C.out.step ka
  obtain ⟨W9, hW9⟩ : ∃ W9, W9 = w8.alloc (.cells #[.int .i64 0, .int .i64 1, .string ⟨#[]⟩, .int .i64 0, .int .i64 1, .bool true, .bool false] 45) := ⟨_, rfl⟩
  rw [← hW9] at h7 h8 hC ⊢
  obtain ⟨b7, hb7⟩ : ∃ b, b = w7.heap.size := ⟨_, rfl⟩
  obtain ⟨b8, hb8⟩ : ∃ b, b = w8.heap.size := ⟨_, rfl⟩
  rw [← hb7] at h7 ⊢
  rw [← hb8] at h8 ⊢
  have HC := Lib.hid hC
  clear hW9 hb7 hb8 hC ka B7 B8
  have x0 : W9.cell? ⟨b7, 0, none⟩ = some (.int .i64 0) := by rw [cell_blk h7]; rfl
  have x1 : W9.cell? ⟨b7, 1, none⟩ = some (.int .i64 2) := by rw [cell_blk h7]; rfl
  have x2 : W9.cell? ⟨b7, 2, none⟩ = some (.string kb) := by rw [cell_blk h7]; rfl
  have x3 : W9.cell? ⟨b7, 3, none⟩ = some (.int .i64 0) := by rw [cell_blk h7]; rfl
  have x4 : W9.cell? ⟨b7, 4, none⟩ = some (.int .i64 0) := by rw [cell_blk h7]; rfl
  have x5 : W9.cell? ⟨b7, 5, none⟩ = some (.bool false) := by rw [cell_blk h7]; rfl
  have x6 : W9.cell? ⟨b7, 6, none⟩ = some (.bool false) := by rw [cell_blk h7]; rfl
  have y0 : W9.cell? ⟨b8, 0, none⟩ = some (.int .i64 0) := by rw [cell_blk h8]; rfl
  have y1 : W9.cell? ⟨b8, 1, none⟩ = some (.int .i64 1) := by rw [cell_blk h8]; rfl
  have y2 : W9.cell? ⟨b8, 2, none⟩ = some (.string ⟨#[]⟩) := by rw [cell_blk h8]; rfl
  have y3 : W9.cell? ⟨b8, 3, none⟩ = some (.int .i64 0) := by rw [cell_blk h8]; rfl
  have y4 : W9.cell? ⟨b8, 4, none⟩ = some (.int .i64 1) := by rw [cell_blk h8]; rfl
  have y5 : W9.cell? ⟨b8, 5, none⟩ = some (.bool true) := by rw [cell_blk h8]; rfl
  have y6 : W9.cell? ⟨b8, 6, none⟩ = some (.bool false) := by rw [cell_blk h8]; rfl
  clear h7 h8
  go_region_held3 (fun w' => w'.cell? ⟨b7, 0, none⟩ = some (.int .i64 0) ∧ w'.cell? ⟨b7, 1, none⟩ = some (.int .i64 2) ∧ w'.cell? ⟨b7, 2, none⟩ = some (.string kb) ∧ w'.cell? ⟨b7, 3, none⟩ = some (.int .i64 0) ∧ w'.cell? ⟨b7, 4, none⟩ = some (.int .i64 0) ∧ w'.cell? ⟨b7, 5, none⟩ = some (.bool false) ∧ w'.cell? ⟨b7, 6, none⟩ = some (.bool false) ∧ w'.cell? ⟨b8, 0, none⟩ = some (.int .i64 0) ∧ w'.cell? ⟨b8, 1, none⟩ = some (.int .i64 1) ∧ w'.cell? ⟨b8, 2, none⟩ = some (.string ⟨#[]⟩) ∧ w'.cell? ⟨b8, 3, none⟩ = some (.int .i64 0) ∧ w'.cell? ⟨b8, 4, none⟩ = some (.int .i64 1) ∧ w'.cell? ⟨b8, 5, none⟩ = some (.bool true) ∧ w'.cell? ⟨b8, 6, none⟩ = some (.bool false)) (go_keep) (first
    | (go_at_call 17
       refine (wtop_c _).mono ?_
       rintro e wt ⟨rfl, kt⟩
       have p0 := kt.cell (show _ = _ from x0) (fun q => q)
       have q0 := kt.cell (show _ = _ from y0) (fun q => q)
       have p1 := kt.cell (show _ = _ from x1) (fun q => q)
       have q1 := kt.cell (show _ = _ from y1) (fun q => q)
       have p2 := kt.cell (show _ = _ from x2) (fun q => q)
       have q2 := kt.cell (show _ = _ from y2) (fun q => q)
       have p3 := kt.cell (show _ = _ from x3) (fun q => q)
       have q3 := kt.cell (show _ = _ from y3) (fun q => q)
       have p4 := kt.cell (show _ = _ from x4) (fun q => q)
       have q4 := kt.cell (show _ = _ from y4) (fun q => q)
       have p5 := kt.cell (show _ = _ from x5) (fun q => q)
       have q5 := kt.cell (show _ = _ from y5) (fun q => q)
       have p6 := kt.cell (show _ = _ from x6) (fun q => q)
       have q6 := kt.cell (show _ = _ from y6) (fun q => q)
       have KT := Lib.hid kt
       clear kt))
  go_wp2
  go_ret
  exact ⟨rfl, (HC.out.keep.drewNew).aside KT.out⟩
end Go.Proofs.YtoanccechefclaaGreatDoor
namespace Go.Proofs.YtoanccechefclaaGreatDoor
open Go Go.RowKit Go.Shelf
set_option maxRecDepth 100000
attribute [local go_sem] Oper.semAt_some
theorem found_set {w w8 : World} {fb : Nat} {t : TypeId} (f : FoundV) (hz : w8.heap[fb]? = some (.cells #[.int .i64 0, .int .i64 0, .string ⟨#[]⟩, .int .i64 0, .int .i64 0, .bool false, .bool false] t (0, 0))) (K : Keep w w8 (fun _ => False)) (hs : w.heap.size ≤ fb) :
    ((((((((w8.setCell ⟨fb, 0, none⟩ (.int .i64 f.dm)).setCell ⟨fb, 1, none⟩ (.int .i64 f.dn)).setCell ⟨fb, 2, none⟩ (.string f.last)).setCell ⟨fb, 3, none⟩ (.int .i64 f.am)).setCell ⟨fb, 4, none⟩ (.int .i64 f.an)).setCell ⟨fb, 5, none⟩ (.bool f.has)).setCell ⟨fb, 6, none⟩ (.bool f.slash))).heap[fb]? = some (.cells #[.int .i64 f.dm, .int .i64 f.dn, .string f.last, .int .i64 f.am, .int .i64 f.an, .bool f.has, .bool f.slash] t (0, 0)) ∧ Keep w ((((((((w8.setCell ⟨fb, 0, none⟩ (.int .i64 f.dm)).setCell ⟨fb, 1, none⟩ (.int .i64 f.dn)).setCell ⟨fb, 2, none⟩ (.string f.last)).setCell ⟨fb, 3, none⟩ (.int .i64 f.am)).setCell ⟨fb, 4, none⟩ (.int .i64 f.an)).setCell ⟨fb, 5, none⟩ (.bool f.has)).setCell ⟨fb, 6, none⟩ (.bool f.slash))) (fun _ => False) := by
  have s := sets_at [(0, .int .i64 f.dm), (1, .int .i64 f.dn), (2, .string f.last), (3, .int .i64 f.am), (4, .int .i64 f.an), (5, .bool f.has), (6, .bool f.slash)] hz
  have k := sets_keep (b := fb) [(0, .int .i64 f.dm), (1, .int .i64 f.dn), (2, .string f.last), (3, .int .i64 f.am), (4, .int .i64 f.an), (5, .bool f.has), (6, .bool f.slash)] w8
  simp only [sets] at s k
  exact ⟨by simpa [setAll] using s, K.trans k (fun b q => .inr (by have q' : b = fb := q; omega))⟩
set_option maxHeartbeats 8000000 in
theorem wsteps_walk (a : Option Addr) (len cap : Nat) (uid gid : Int) (a2 : Option Addr) (n2 cap2 : Nat) (zs : List Int) (follow : Bool) (w : World) (h : StructsIs actsT w a len cap) (_ : ∀ z ∈ [uid, gid], (Lit.int .i64 z).wf = true) (hz : NumsIs .i64 w a2 n2 cap2 zs) :
    Calls Tryz.prog 5 #[.slice a len cap, .agg #[.int .i64 uid, .int .i64 gid], .slice a2 n2 cap2, .bool follow] w fun r w' => r = .returned (.bool true) ∧ Below w.heap.size w w' := by
  have hcap := h.cap
  have hl1 : len ≤ 9223372036854775807 := by unfold maxLen at hcap; omega
  have HA := Lib.hid h
  have HZ := Lib.hid hz
  clear hcap h hz
  go_enter Tryz.func5, Tryz.ntmps5
  go_upto_region 1 with (fail)
  obtain ⟨w0, hw0⟩ : ∃ w0, w0 = w.alloc (.cells #[.int .i64 uid, .int .i64 gid] 24) := ⟨_, rfl⟩
  have k0 := Keep.alloc w (.cells #[.int .i64 uid, .int .i64 gid] 24) (fun _ => False)
  have b0 := heap_alloc_eq w (.cells #[.int .i64 uid, .int .i64 gid] 24)
  rw [← hw0] at k0 b0 ⊢
  have HB := Lib.hid (And.intro k0 b0)
  obtain ⟨cb, hcb⟩ : ∃ cb, w.heap.size = cb := ⟨_, rfl⟩
  rw [hcb] at HB ⊢
  clear hw0 k0 b0 hcb
  have hnew := pnew_c (Keep.refl w0 (fun _ => False))
  simp only [bothC] at hnew
  go_upto_block 0 with (first
    | (go_at_call 11
       refine hnew.mono ?_
       rintro e w1 ⟨tb, mb, rb, qb, rfl, hp⟩
       have L0 := Lib.hid hp.lw
       clear hp))
  clear hnew
  obtain ⟨w2, hw2⟩ : ∃ w2, w2 = w1.alloc (.cells (bothC tb mb rb qb) 31) := ⟨_, rfl⟩
  rw [← hw2] at L0
  simp only [bothC] at hw2
  rw [← hw2]
  obtain ⟨xb, hxb⟩ : ∃ xb, w1.heap.size = xb := ⟨_, rfl⟩
  rw [hxb] at L0 ⊢
  clear hw2 hxb
  go_cut [] (fun wx => ∃ T V, LW w0 wx xb tb rb mb qb T V 301 w2 (fun b => b = xb))
  case first => as_aux_lemma =>
    go_wp2_with fail
    go_loopg [11] 50 (fun g si wr => ∃ (i : Nat) (T : TreeV) (V : MountV), si = .int .i64 i ∧ i + g = 50 ∧ LW w0 wr xb tb rb mb qb T V (1 + 6 * i) w2 (fun b => b = xb))
    case atStart => exact ⟨0, _, _, rfl, rfl, L0.out⟩
    case round =>
      obtain ⟨i, T, V, rfl, hig, hl⟩ := hrel
      have L := Lib.hid hl
      clear hl
      obtain ⟨wo, rfl⟩ : ∃ wo : World, wo = wr := ⟨_, rfl⟩
      by_cases hlt : i < len
      · by_cases h50 : (i : Int) < 50
        · have hlt' : (i : Int) < (len : Int) := by omega
          obtain ⟨b, off, rfl, hb, hat⟩ := actsT_at HA.out (by omega)
          obtain ⟨x, hx, hxb⟩ := hat i hlt
          have kw := HB.out.1.aside L.out.ps.keep
          obtain ⟨y0, y1, y2, y3, y4, y5, y6, y7, y8, y9, y10, y11, y12, y13, y14⟩ := hx.keep kw (fun q => q)
          obtain ⟨x0, x1, x2, x3⟩ := L.out.cells
          have htm := fun w' => playtame_c w' x hxb.1 hxb.2
          simp only [actC] at htm
          have HX := Lib.hid hx
          clear hat hx hxb hb kw
          go_wp2
          go_region_held3 (fun w' => w'.cell? ⟨xb, 0, none⟩ = some (.pointer (some ⟨tb, 0, none⟩)) ∧ w'.cell? ⟨xb, 1, none⟩ = some (.pointer (some ⟨mb, 0, none⟩)) ∧ w'.cell? ⟨xb, 2, none⟩ = some (.pointer (some ⟨rb, 0, none⟩)) ∧ w'.cell? ⟨xb, 3, none⟩ = some (.pointer (some ⟨qb, 0, none⟩)) ∧ w'.cell? ⟨b, off + i * 15, none⟩ = some (.int .i64 x.kind) ∧ w'.cell? ⟨b, off + i * 15 + 1, none⟩ = some (.int .i64 x.dir) ∧ w'.cell? ⟨b, off + i * 15 + 2, none⟩ = some (.int .i64 x.to_) ∧ w'.cell? ⟨b, off + i * 15 + 3, none⟩ = some (.int .i64 x.n) ∧ w'.cell? ⟨b, off + i * 15 + 4, none⟩ = some (.string x.s) ∧ w'.cell? ⟨b, off + i * 15 + 5, none⟩ = some (.string x.as_) ∧ w'.cell? ⟨b, off + i * 15 + 6, none⟩ = some (.int .i64 x.st.node) ∧ w'.cell? ⟨b, off + i * 15 + 7, none⟩ = some (.int .i64 x.st.kind) ∧ w'.cell? ⟨b, off + i * 15 + 8, none⟩ = some (.int .i64 x.st.mode) ∧ w'.cell? ⟨b, off + i * 15 + 9, none⟩ = some (.int .i64 x.st.uid) ∧ w'.cell? ⟨b, off + i * 15 + 10, none⟩ = some (.int .i64 x.st.gid) ∧ w'.cell? ⟨b, off + i * 15 + 11, none⟩ = some (.int .i64 x.st.links) ∧ w'.cell? ⟨b, off + i * 15 + 12, none⟩ = some (.int .i64 x.st.size) ∧ w'.cell? ⟨b, off + i * 15 + 13, none⟩ = some (.int .i64 x.am) ∧ w'.cell? ⟨b, off + i * 15 + 14, none⟩ = some (.int .i64 x.an)) (go_keep) (first
            | (go_at_call 13
               refine (htm _).mono ?_
               rintro e w3 ⟨y, rfl, hy, hyt, k3⟩
               have k4 : Keep wo w3 (fun _ => False) := by (repeat (first | with_reducible exact Keep.refl _ _ | with_reducible refine Keep.drewNew ?_ | with_reducible refine Keep.allocNew ?_ _ | with_reducible refine Keep.aside ?_ (by with_reducible assumption)))
               obtain ⟨p0, p1, p2, p3, p4, p5, p6, p7, p8, p9, p10, p11, p12, p13, p14⟩ := HX.out.keep ((HB.out.1.aside L.out.ps.keep).aside k4) (fun q => q)
               obtain ⟨q0, q1, q2, q3⟩ := (L.out.aside k4).cells
               have hdo := fun w9 (K : Keep w3 w9 (fun _ => False)) => L.out.do_ (by omega) y hy hyt w9 (k4.aside K)
               simp only [bothC, actC] at hdo
               clear hy hyt k3 htm)
            | (go_at_call 12
               refine (hdo _ ?_).mono ?_
               · (repeat (first | with_reducible exact Keep.refl _ _ | with_reducible refine Keep.drewNew ?_ | with_reducible refine Keep.allocNew ?_ _ | with_reducible refine Keep.aside ?_ (by with_reducible assumption)))
               rintro e w5 ⟨rfl, h5⟩
               obtain ⟨r0, r1, r2, r3, r4, r5, r6, r7, r8, r9, r10, r11, r12, r13, r14⟩ := HX.out.keep (HB.out.1.aside h5.ps.keep) (fun q => q)
               obtain ⟨s0, s1, s2, s3⟩ := h5.cells
               have N := Lib.hid h5
               clear hdo h5))
          go_wp2
          go_roundg (50 - (i + 1))
          case measure => omega
          case rel => exact ⟨i + 1, _, _, by go_num, by omega, N.out.more (by omega)⟩
        · have hlt' : (i : Int) < (len : Int) := by omega
          go_wp2
          go_meet
          case rel => exact ⟨T, V, L.out.more (by omega)⟩
      · have hlt' : ¬ (i : Int) < (len : Int) := by omega
        go_wp2
        go_meet
        case rel => exact ⟨T, V, L.out.more (by omega)⟩
  case rest =>
    obtain ⟨w3, rfl⟩ : ∃ w3 : World, w3 = wc := ⟨_, rfl⟩
    obtain ⟨T, V, hl⟩ := hcut
    have L := Lib.hid hl
    clear hl L0
    have hpa := path_c a2 n2 cap2 zs w3 (HZ.out.aside (HB.out.1.aside L.out.ps.keep))
    go_upto_region 9 with (
      go_at_call 14
      refine hpa.mono ?_
      rintro e w4 ⟨p, rfl, hp, k4⟩
      have L4 := Lib.hid (L.out.aside k4)
      have HP := Lib.hid hp
      clear hpa hp k4 L)
    obtain ⟨f, e, n, hR⟩ : ∃ f e n, walkP (wkE T V ⟨uid, gid⟩ follow) 0 1 p = (f, e, n) := ⟨_, _, _, rfl⟩
    have hst := L4.out.ps.steps (by decide) ⟨uid, gid⟩ follow 0 1 p hR
    have hwk := L4.out.ps.walk (by decide) ⟨uid, gid⟩ follow 0 1 p hR
    simp only [foundC] at hwk
    have HR := Lib.hid hR
    clear hR
    obtain ⟨X, hX⟩ : ∃ X, X = txB p := ⟨_, rfl⟩
    rw [← hX] at hst hwk ⊢
    have HXp := Lib.hid hX
    clear hX
    obtain ⟨x0, x1, x2, x3⟩ := L4.out.cells
    have u := L4.out.ps.keep.get HB.out.2 (fun q => q)
    have u0 : w4.cell? ⟨cb, 0, none⟩ = some (.int .i64 uid) := by rw [cell_blk u]; rfl
    have u1 : w4.cell? ⟨cb, 1, none⟩ = some (.int .i64 gid) := by rw [cell_blk u]; rfl
    clear u x2 x3
    go_region_held3 (fun w' => w'.cell? ⟨xb, 0, none⟩ = some (.pointer (some ⟨tb, 0, none⟩)) ∧ w'.cell? ⟨xb, 1, none⟩ = some (.pointer (some ⟨mb, 0, none⟩)) ∧ w'.cell? ⟨cb, 0, none⟩ = some (.int .i64 uid) ∧ w'.cell? ⟨cb, 1, none⟩ = some (.int .i64 gid)) (go_keep) (first
      | (go_at_call 17
         refine (wtop_c _).mono ?_
         rintro e5 w5 ⟨rfl, k5⟩
         have k4 : Keep w4 w5 (fun _ => False) := by (repeat (first | with_reducible exact Keep.refl _ _ | with_reducible refine Keep.drewNew ?_ | with_reducible refine Keep.allocNew ?_ _ | with_reducible refine Keep.aside ?_ (by with_reducible assumption)))
         have p0 := k4.cell x0 (fun q => q)
         have p1 := k4.cell x1 (fun q => q)
         have p2 := k4.cell u0 (fun q => q)
         have p3 := k4.cell u1 (fun q => q))
      | (go_at_call 22
         refine (hst _ ?_).mono ?_
         · (repeat (first | with_reducible exact Keep.refl _ _ | with_reducible refine Keep.drewNew ?_ | with_reducible refine Keep.allocNew ?_ _ | with_reducible refine Keep.aside ?_ (by with_reducible assumption)))
         rintro e6 w6 ⟨rfl, k6⟩
         have k4 : Keep w4 w6 (fun _ => False) := by (repeat (first | with_reducible exact Keep.refl _ _ | with_reducible refine Keep.drewNew ?_ | with_reducible refine Keep.allocNew ?_ _ | with_reducible refine Keep.aside ?_ (by with_reducible assumption)))
         have q0 := k4.cell x0 (fun q => q)
         have q1 := k4.cell x1 (fun q => q)
         have q2 := k4.cell u0 (fun q => q)
         have q3 := k4.cell u1 (fun q => q)
         have K6 := Lib.hid k4
         clear hst k4 k6))
    go_upto_region 10 with (fail)
    go_cut [14, 15] (fun s14 s15 wx => ∃ fb, s14 = .pointer (some ⟨fb, 0, none⟩) ∧ s15 = .int .i64 e ∧ Keep w6 wx (fun _ => False) ∧ wx.heap[fb]? = some (.cells (foundC f) 45 (0, 0)) ∧ w6.heap.size ≤ fb)
    case first =>
      have n0w6 : w6.heap.size ≠ xb := World.new_ne w6 _ q0
      have n2w6 : w6.heap.size ≠ cb := World.new_ne w6 _ q2
      have dr0 : (World.drew w6).cell? ⟨xb, 0, none⟩ = some (.pointer (some ⟨tb, 0, none⟩)) := q0
      have dr1 : (World.drew w6).cell? ⟨xb, 1, none⟩ = some (.pointer (some ⟨mb, 0, none⟩)) := q1
      have dr2 : (World.drew w6).cell? ⟨cb, 0, none⟩ = some (.int .i64 uid) := q2
      have dr3 : (World.drew w6).cell? ⟨cb, 1, none⟩ = some (.int .i64 gid) := q3
      go_region_held3 (fun w' => w'.cell? ⟨xb, 0, none⟩ = some (.pointer (some ⟨tb, 0, none⟩)) ∧ w'.cell? ⟨xb, 1, none⟩ = some (.pointer (some ⟨mb, 0, none⟩)) ∧ w'.cell? ⟨cb, 0, none⟩ = some (.int .i64 uid) ∧ w'.cell? ⟨cb, 1, none⟩ = some (.int .i64 gid)) (refine ⟨?_, ?_, ?_, ?_⟩ <;> (repeat (first | with_reducible assumption | rw [World.cell?_setCell_far _ _ _ _ (by dsimp only; with_reducible assumption)] | (with_reducible refine (Keep.alloc _ _ (fun _ => False)).cell ?_ (fun q => q)) | (with_reducible refine (Keep.drew _ (fun _ => False)).cell ?_ (fun q => q))))) (first
        | (go_at_call 17
           refine (wtop_c _).mono ?_
           rintro e7 w7 ⟨rfl, k7⟩
           have k6 : Keep w6 w7 (fun _ => False) := by (repeat (first | with_reducible exact Keep.refl _ _ | with_reducible refine Keep.drewNew ?_ | with_reducible refine Keep.allocNew ?_ _ | with_reducible refine Keep.aside ?_ (by with_reducible assumption)))
           have s0 := k6.cell q0 (fun q => q)
           have s1 := k6.cell q1 (fun q => q)
           have s2 := k6.cell q2 (fun q => q)
           have s3 := k6.cell q3 (fun q => q)
           have hs7 := k6.size
           have n0w7 : w7.heap.size ≠ xb := World.new_ne w7 _ s0
           have n2w7 : w7.heap.size ≠ cb := World.new_ne w7 _ s2
           first
             | (have hz := k7.get hz (fun q => q)
                obtain ⟨⟨zc0, zc1, zc2, zc3, zc4, zc5, zc6⟩, zf0, zf1, zf2, zf3, zf4, zf5, zf6⟩ := cells7 hz)
             | (with_reducible have hz := k7.get ((Keep.drew _ (fun _ => False)).get (heap_alloc_eq w6 (.cells #[.int .i64 0, .int .i64 0, .string ⟨#[]⟩, .int .i64 0, .int .i64 0, .bool false, .bool false] 45)) (fun q => q)) (fun q => q)
                obtain ⟨⟨zc0, zc1, zc2, zc3, zc4, zc5, zc6⟩, zf0, zf1, zf2, zf3, zf4, zf5, zf6⟩ := cells7 hz)
             | (with_reducible have hz := k7.get (heap_alloc_eq _ (.cells #[.int .i64 0, .int .i64 0, .string ⟨#[]⟩, .int .i64 0, .int .i64 0, .bool false, .bool false] 45)) (fun q => q)
                obtain ⟨⟨zc0, zc1, zc2, zc3, zc4, zc5, zc6⟩, zf0, zf1, zf2, zf3, zf4, zf5, zf6⟩ := cells7 hz)
             | skip)
        | (go_at_call 16
           refine (hwk _ ?_).mono ?_
           · (refine K6.out.aside ?_; (repeat (first | with_reducible exact Keep.refl _ _ | with_reducible refine Keep.drewNew ?_ | with_reducible refine Keep.allocNew ?_ _ | with_reducible refine Keep.aside ?_ (by with_reducible assumption))))
           rintro e8 w8 ⟨rfl, k8⟩
           have k6 : Keep w6 w8 (fun _ => False) := by (repeat (first | with_reducible exact Keep.refl _ _ | with_reducible refine Keep.drewNew ?_ | with_reducible refine Keep.allocNew ?_ _ | with_reducible refine Keep.aside ?_ (by with_reducible assumption)))
           have t0 := k6.cell q0 (fun q => q)
           have t1 := k6.cell q1 (fun q => q)
           have t2 := k6.cell q2 (fun q => q)
           have t3 := k6.cell q3 (fun q => q)
           have n0w8 : w8.heap.size ≠ xb := World.new_ne w8 _ t0
           have n2w8 : w8.heap.size ≠ cb := World.new_ne w8 _ t2
           first
             | (have hz := k8.get hz (fun q => q)
                obtain ⟨⟨zc0, zc1, zc2, zc3, zc4, zc5, zc6⟩, zf0, zf1, zf2, zf3, zf4, zf5, zf6⟩ := cells7 hz)
             | (with_reducible have hz := k8.get ((Keep.drew _ (fun _ => False)).get (heap_alloc_eq w6 (.cells #[.int .i64 0, .int .i64 0, .string ⟨#[]⟩, .int .i64 0, .int .i64 0, .bool false, .bool false] 45)) (fun q => q)) (fun q => q)
                obtain ⟨⟨zc0, zc1, zc2, zc3, zc4, zc5, zc6⟩, zf0, zf1, zf2, zf3, zf4, zf5, zf6⟩ := cells7 hz)
             | (with_reducible have hz := k8.get (heap_alloc_eq _ (.cells #[.int .i64 0, .int .i64 0, .string ⟨#[]⟩, .int .i64 0, .int .i64 0, .bool false, .bool false] 45)) (fun q => q)
                obtain ⟨⟨zc0, zc1, zc2, zc3, zc4, zc5, zc6⟩, zf0, zf1, zf2, zf3, zf4, zf5, zf6⟩ := cells7 hz)
             | skip))
      all_goals go_wp2
      all_goals go_meet
      all_goals unfold foundC
      all_goals first
        | exact ⟨_, rfl, rfl, (found_set f hz k6 (by first | exact Nat.le_refl _ | omega)).2, (found_set f hz k6 (by first | exact Nat.le_refl _ | omega)).1, by first | exact Nat.le_refl _ | omega⟩
        | (refine ⟨_, rfl, rfl, ?_, heap_alloc_eq _ _, k6.size⟩
           (repeat (first | with_reducible exact Keep.refl _ _ | with_reducible refine Keep.drewNew ?_ | with_reducible refine Keep.allocNew ?_ _ | with_reducible refine Keep.aside ?_ (by with_reducible assumption))))
    case rest =>
      obtain ⟨fb, rfl, rfl, k9, -, -⟩ := hcut
      have hs := walkP_steps (E := wkE T V ⟨uid, gid⟩ follow) (fun n => L4.out.ps.tx.textOf n) 0 1 p
      rw [HR.out] at hs
      obtain ⟨hs0, hs1, hs2⟩ := hs
      simp only at hs0 hs1 hs2
      have hXs : X.size = p.length := by rw [HXp.out, txB_size]
      have hp80 := HP.out.1
      have g1 : n ≤ (X.size : Int) + 1 + 480 := by omega
      have gX : X.size ≤ 80 := by omega
      have K9 := Lib.hid k9
      clear k9 hp80 hs1
      have hk := wknown_c wc
      have HXs := Lib.hid hXs
      clear hXs
      by_cases he : e = 32
      · have ge : (e != 32) = false := by simp [he]
        have h2 := hs2 he
        clear hs2 he
        by_cases hp0 : p = []
        · have hx0 : (X.toList.isEmpty) = true := by rw [HXp.out, txB_toList, hp0]; rfl
          have hx1 : X = ⟨#[]⟩ := by rw [HXp.out, hp0]; rfl
          have g3 : n ≤ 481 := by
            have hx2 : X.size = 0 := by rw [hx1]; rfl
            omega
          clear hp0 h2
          go_wp2_with (
            go_at_call 15
            refine hk.mono ?_
            rintro e5 w5 ⟨rfl, k5⟩)
          go_ret
          exact ⟨rfl, ((HB.out.1.aside ((L4.out.ps.keep.aside K6.out).aside K9.out)).aside k5).below (Nat.le_refl _) (fun b q => q.elim)⟩
        · have hn : 0 < n := h2.resolve_left hp0
          have hx0 : (X.toList.isEmpty) = false := by rw [HXp.out, txB_toList]; simpa using hp0
          have hx1 : ¬ X = ⟨#[]⟩ := fun q => hp0 (by have := congrArg (fun x : ByteArray => x.data.toList) (HXp.out.symm.trans q); simpa [txB] using this)
          clear hp0 h2
          go_wp2_with (
            go_at_call 15
            refine hk.mono ?_
            rintro e5 w5 ⟨rfl, k5⟩)
          go_ret
          exact ⟨rfl, ((HB.out.1.aside ((L4.out.ps.keep.aside K6.out).aside K9.out)).aside k5).below (Nat.le_refl _) (fun b q => q.elim)⟩
      · have ge : (e != 32) = true := by simp [he]
        clear hs2 he
        go_wp2_with (
          go_at_call 15
          refine hk.mono ?_
          rintro e5 w5 ⟨rfl, k5⟩)
        go_ret
        exact ⟨rfl, ((HB.out.1.aside ((L4.out.ps.keep.aside K6.out).aside K9.out)).aside k5).below (Nat.le_refl _) (fun b q => q.elim)⟩
end Go.Proofs.YtoanccechefclaaGreatDoor
