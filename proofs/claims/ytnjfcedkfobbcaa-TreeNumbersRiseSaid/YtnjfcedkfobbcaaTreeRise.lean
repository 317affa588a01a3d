/-
  TreeNumbersRise: the walk.
-/
import Derived.Test.YtnjfcedkfobbcaaTreeCur
import Derived.Test.YtnjfcedkfobbcaaArgs
namespace Go.Proofs.Ytnjfcedkfobbcaa
open Go Go.RowKit Go.Shelf
set_option linter.unusedSectionVars false
set_option linter.unusedSimpArgs false
set_option linter.unusedVariables false
set_option maxRecDepth 100000

abbrev kc : ByteArray := ⟨#[99]⟩
abbrev kd : ByteArray := ⟨#[100]⟩
theorem right_cc : RightIs kc true := rightIs (l := [99]) (by decide +kernel)
theorem right_dd : RightIs kd true := rightIs (l := [100]) (by decide +kernel)
theorem ne_ab : ¬ ka = kb := by decide
theorem ne_ac : ¬ ka = kc := by decide
theorem ne_ad : ¬ ka = kd := by decide
theorem ne_bc : ¬ kb = kc := by decide
theorem ne_bd : ¬ kb = kd := by decide
theorem ne_cd : ¬ kc = kd := by decide

def symV : NodeV := ⟨3, maskV 0, 0, 0, [], 0, 1, 0, ByteArray.empty, 0⟩
def RT (m t : Int) (names : List (ByteArray × Int)) (rest : List Nod) : TreeV := ⟨4, m, t, (1, ⟨1, 493, 0, 0, names, 1, 0, 0, ByteArray.empty, 0⟩) :: rest, ⟨0, 0, []⟩⟩
def Q0 (m t : Int) : TreeV := RT m t [] []
def Q1 (m t a : Int) : TreeV := RT m t [(ka, a)] [(a, symV)]
def Q2 (m t a b : Int) : TreeV := RT m t [(ka, a), (kb, b)] [(a, symV), (b, symV)]
def Q3 (m t a b c : Int) : TreeV := RT m t [(ka, a), (kb, b), (kc, c)] [(a, symV), (b, symV), (c, symV)]

theorem dir1 (m t : Int) (names : List (ByteArray × Int)) (rest : List Nod) : (RT m t names rest).dir 1 = some ⟨1, 493, 0, 0, names, 1, 0, 0, ByteArray.empty, 0⟩ := by
  unfold TreeV.dir RT
  simp [aget, Option.filter]

/-- A node more, at the end. -/
theorem rt_make {m t : Int} {names : List (ByteArray × Int)} {rest : List Nod} {k : ByteArray} (hk : aget names k = none) (hm : 1 ≤ m) (hr : ∀ x ∈ rest, x.1 ≤ m) (hl : rest.length < 3) :
    (RT m t names rest).make true 1 k 3 (maskV 0) 0 0 ByteArray.empty = (RT (m + 1) (t + 1) (names ++ [(k, m + 1)]) (rest ++ [(m + 1, symV)]), m + 1, 0) := by
  have hn : m + 1 ∉ rest.map Prod.fst := fun q => by
    obtain ⟨x, hx, e⟩ := List.mem_map.1 q
    have := hr x hx
    omega
  have h1 : ¬ (1 : Int) = m + 1 := by omega
  have e1 : aset ((1, (⟨1, 493, 0, 0, names, 1, 0, 0, ByteArray.empty, 0⟩ : NodeV)) :: rest) (m + 1) (⟨3, maskV 0, 0, 0, [], 0, 0, 0, ByteArray.empty, 0⟩ : NodeV) = (1, ⟨1, 493, 0, 0, names, 1, 0, 0, ByteArray.empty, 0⟩) :: (rest ++ [(m + 1, ⟨3, maskV 0, 0, 0, [], 0, 0, 0, ByteArray.empty, 0⟩)]) := by
    simp only [aset]
    rw [if_neg h1, aset_new _ _ _ hn]
  have e2 : aget ((1, (⟨1, 493, 0, 0, names, 1, 0, 0, ByteArray.empty, 0⟩ : NodeV)) :: (rest ++ [(m + 1, (⟨3, maskV 0, 0, 0, [], 0, 0, 0, ByteArray.empty, 0⟩ : NodeV))])) (m + 1) = some ⟨3, maskV 0, 0, 0, [], 0, 0, 0, ByteArray.empty, 0⟩ := by
    simp only [aget]
    rw [if_neg h1, aget_snocN _ _ _ _ hn, if_pos rfl]
  have e3 : aset (rest ++ [(m + 1, (⟨3, maskV 0, 0, 0, [], 0, 0, 0, ByteArray.empty, 0⟩ : NodeV))]) (m + 1) (⟨3, maskV 0, 0, 0, [], 0, 1, 0, ByteArray.empty, 0⟩ : NodeV) = rest ++ [(m + 1, symV)] := by
    clear e1 e2 hl hr
    induction rest with
    | nil => simp [aset, symV]
    | cons y r ih =>
      obtain ⟨a, u⟩ := y
      simp only [List.map_cons, List.mem_cons, not_or] at hn
      simp only [List.cons_append, aset]
      rw [if_neg (fun q => hn.1 q.symm), ih hn.2]
  unfold TreeV.make
  rw [dir1]
  simp only
  rw [if_neg (by simp), if_neg (by unfold TreeV.free TreeV.named; simp [hk]), if_neg (by simp), if_neg (by show ¬ ((4 : Int) ≤ (((1, _) :: rest : List Nod).length : Int)); simp only [List.length_cons]; omega)]
  unfold TreeV.add
  simp only [RT, show ¬ ((3 : Int) = 2) by decide, if_false]
  rw [e1]
  unfold TreeV.give
  simp only
  rw [show aget ((1, (⟨1, 493, 0, 0, names, 1, 0, 0, ByteArray.empty, 0⟩ : NodeV)) :: (rest ++ [(m + 1, (⟨3, maskV 0, 0, 0, [], 0, 0, 0, ByteArray.empty, 0⟩ : NodeV))])) 1 = some ⟨1, 493, 0, 0, names, 1, 0, 0, ByteArray.empty, 0⟩ by simp [aget], e2]
  simp only [aset, if_true, if_neg h1, Int.zero_add]
  rw [show (if (3 : Int) = 1 then (1 : Int) else 0) = 0 by simp, e3, aset_new _ _ _ (aget_out hk)]

theorem rt_full {m t : Int} {names : List (ByteArray × Int)} {rest : List Nod} {k : ByteArray} (hk : aget names k = none) (hl : 3 ≤ rest.length) :
    (RT m t names rest).make true 1 k 3 (maskV 0) 0 0 ByteArray.empty = (RT m t names rest, 0, 43) := by
  unfold TreeV.make
  rw [dir1]
  simp only
  rw [if_neg (by simp), if_neg (by unfold TreeV.free TreeV.named; simp [hk]), if_neg (by simp), if_pos (by show ((4 : Int) ≤ (((1, _) :: rest : List Nod).length : Int)); simp only [List.length_cons]; omega)]

/-- The last node goes. -/
theorem rt_part {m t n : Int} {names : List (ByteArray × Int)} {rest : List Nod} {k : ByteArray} (hk : aget names k = none) (hn1 : 1 < n) (hn : n ∉ rest.map Prod.fst) :
    (RT m t (names ++ [(k, n)]) (rest ++ [(n, symV)])).part 1 k = (RT m (t + 2) names rest, 0) := by
  have hkn := aget_out hk
  have h1 : ¬ (1 : Int) = n := by omega
  have g1 : aget (names ++ [(k, n)]) k = some n := by
    rw [← aset_new _ _ n hkn, aget_aset, if_pos rfl]
  have g2 : ∀ z : NodeV, aget (rest ++ [(n, z)]) n = some z := fun z => by rw [aget_snocN _ _ _ _ hn, if_pos rfl]
  have g3 : adel (names ++ [(k, n)]) k = names := by
    clear g1 hk
    induction names with
    | nil => simp [adel]
    | cons y r ih =>
      obtain ⟨a, u⟩ := y
      simp only [List.map_cons, List.mem_cons, not_or] at hkn
      simp only [List.cons_append, adel]
      rw [if_neg (fun q => hkn.1 q.symm), ih hkn.2]
  have g4 : ∀ z z' : NodeV, aset (rest ++ [(n, z)]) n z' = rest ++ [(n, z')] := fun z z' => by
    clear g2
    induction rest with
    | nil => simp [aset]
    | cons y r ih =>
      obtain ⟨a, u⟩ := y
      simp only [List.map_cons, List.mem_cons, not_or] at hn
      simp only [List.cons_append, aset]
      rw [if_neg (fun q => hn.1 q.symm), ih hn.2]
  have g5 : ∀ z : NodeV, adel (rest ++ [(n, z)]) n = rest := fun z => by
    clear g2 g4
    induction rest with
    | nil => simp [adel]
    | cons y r ih =>
      obtain ⟨a, u⟩ := y
      simp only [List.map_cons, List.mem_cons, not_or] at hn
      simp only [List.cons_append, adel]
      rw [if_neg (fun q => hn.1 q.symm), ih hn.2]
  unfold TreeV.part
  rw [dir1]
  simp only
  rw [g1]
  simp only
  rw [show aget (RT m t (names ++ [(k, n)]) (rest ++ [(n, symV)])).all n = some symV by unfold RT; simp only [aget]; rw [if_neg h1, g2]]
  simp only
  rw [if_neg (by simp [symV])]
  unfold TreeV.take TreeV.loseName
  rw [show aget (RT m t (names ++ [(k, n)]) (rest ++ [(n, symV)])).all n = some symV by unfold RT; simp only [aget]; rw [if_neg h1, g2], show aget (RT m t (names ++ [(k, n)]) (rest ++ [(n, symV)])).all 1 = some ⟨1, 493, 0, 0, names ++ [(k, n)], 1, 0, 0, ByteArray.empty, 0⟩ by unfold RT; simp [aget]]
  simp only [g3]
  unfold TreeV.drop
  simp only [RT, aset, if_true, if_neg h1, g4, aget, g2, symV, TreeV.named]
  simp only [show ¬ n = 1 by omega, decide_false, Bool.false_or, Int.sub_self, decide_eq_true_eq, Int.lt_irrefl, or_self, if_false]
  simp only [adel, if_neg h1, g5, show ¬ ((3 : Int) = 2) by decide, if_false]
  simp
  omega

inductive RSh : Int → Int → TreeV → Prop
  | r0 (m t : Int) : 1 ≤ m → RSh 0 m (Q0 m t)
  | r1 (m t a : Int) : 1 < a → a ≤ m → RSh 1 m (Q1 m t a)
  | r2 (m t a b : Int) : 1 < a → a < b → b ≤ m → RSh 2 m (Q2 m t a b)
  | r3 (m t a b c : Int) : 1 < a → a < b → b < c → c ≤ m → RSh 3 m (Q3 m t a b c)

theorem q0_make {m t : Int} (h : 1 ≤ m) : (Q0 m t).make true 1 ka 3 (maskV 0) 0 0 ByteArray.empty = (Q1 (m + 1) (t + 1) (m + 1), m + 1, 0) := rt_make rfl h (by simp) (by simp)
theorem q1_make {m t a : Int} (h : 1 < a) (h2 : a ≤ m) : (Q1 m t a).make true 1 kb 3 (maskV 0) 0 0 ByteArray.empty = (Q2 (m + 1) (t + 1) a (m + 1), m + 1, 0) := rt_make (by simp [aget, ne_ab]) (by omega) (by simp; omega) (by simp)
theorem q2_make {m t a b : Int} (h : 1 < a) (h2 : a < b) (h3 : b ≤ m) : (Q2 m t a b).make true 1 kc 3 (maskV 0) 0 0 ByteArray.empty = (Q3 (m + 1) (t + 1) a b (m + 1), m + 1, 0) := rt_make (by simp [aget, ne_ac, ne_bc]) (by omega) (by simp; omega) (by simp)
theorem q3_make {m t a b c : Int} : (Q3 m t a b c).make true 1 kd 3 (maskV 0) 0 0 ByteArray.empty = (Q3 m t a b c, 0, 43) := rt_full (by simp [aget, ne_ad, ne_bd, ne_cd]) (by simp)
theorem q1_part {m t a : Int} (h : 1 < a) : (Q1 m t a).part 1 ka = (Q0 m (t + 2), 0) := rt_part (names := []) (rest := []) rfl h (by simp)
theorem q2_part {m t a b : Int} (h : 1 < a) (h2 : a < b) : (Q2 m t a b).part 1 kb = (Q1 m (t + 2) a, 0) := rt_part (names := [(ka, a)]) (rest := [(a, symV)]) (by simp [aget, ne_ab]) (by omega) (by simp; omega)
theorem q3_part {m t a b c : Int} (h : 1 < a) (h2 : a < b) (h3 : b < c) : (Q3 m t a b c).part 1 kc = (Q2 m (t + 2) a b, 0) := rt_part (names := [(ka, a), (kb, b)]) (rest := [(a, symV), (b, symV)]) (by simp [aget, ne_ac, ne_bc]) (by omega) (by simp; omega)


theorem conv97 (w : World) : (convert 21 9 (.int .i32 97)).run Try.prog w = .ok (.string ka) w := by kernel_rfl
theorem conv98 (w : World) : (convert 21 9 (.int .i32 98)).run Try.prog w = .ok (.string kb) w := by kernel_rfl
theorem conv99 (w : World) : (convert 21 9 (.int .i32 99)).run Try.prog w = .ok (.string kc) w := by kernel_rfl
theorem conv100 (w : World) : (convert 21 9 (.int .i32 100)).run Try.prog w = .ok (.string kd) w := by kernel_rfl

theorem names_q {T : TreeV} {m t : Int} {names : List (ByteArray × Int)} {rest : List Nod} (h : T = RT m t names rest) : (T.namesAt 1).length = names.length := by
  subst h
  unfold TreeV.namesAt
  rw [dir1]
  exact sortedN_len names
theorem RSh.names {h m : Int} {T : TreeV} (r : RSh h m T) : ((T.namesAt 1).length : Int) = h := by
  cases r with
  | r0 => exact (congrArg Nat.cast (names_q (names := []) (rest := []) rfl)).trans rfl
  | r1 _ _ a => exact (congrArg Nat.cast (names_q (names := [(ka, a)]) (rest := [(a, symV)]) rfl)).trans rfl
  | r2 _ _ a b => exact (congrArg Nat.cast (names_q (names := [(ka, a), (kb, b)]) (rest := [(a, symV), (b, symV)]) rfl)).trans rfl
  | r3 _ _ a b c => exact (congrArg Nat.cast (names_q (names := [(ka, a), (kb, b), (kc, c)]) (rest := [(a, symV), (b, symV), (c, symV)]) rfl)).trans rfl
theorem RSh.have_le {h m : Int} {T : TreeV} (r : RSh h m T) : 0 ≤ h ∧ h ≤ 3 := by cases r <;> decide

set_option maxHeartbeats 1600000 in
theorem rise_walk (a : Option Addr) (len cap : Nat) (bs : List Bool) (w : World) (h : BoolsIs w a len cap bs) :
    Calls Try.prog 4 #[.slice a len cap] w fun r w' => r = .returned (.bool true) ∧ Below w.heap.size w w' := by
  have h0 := newt_c (Keep.refl w _) 4 0 ⟨by decide, by decide⟩ ⟨by decide, by decide⟩
  obtain ⟨hbl, hbm, hbi⟩ := h
  have hl1 : len ≤ 9223372036854775807 := by unfold maxLen at hbm; omega
  have HB := Lib.hid (And.intro hbl hbi)
  clear hbl hbm hbi
  go_enter Try.func4, Try.ntmps4
  go_wp2_with (
    go_at_call 9
    refine h0.mono ?_
    rintro e w1 ⟨tb, s0, rfl, c0, -⟩
    have C0 := Lib.hid (show TCur w _ tb s0 (Q0 1 0) 0 1 from c0)
    clear h0 c0)
  go_loopg [5, 6, 7] 60 (fun g s5 s6 s7 wr => ∃ (i : Nat) (hv m : Int) (s : TShape) (T : TreeV), s5 = .int .i64 (m + 1) ∧ s6 = .int .i64 hv ∧ s7 = .int .i64 i ∧ i + g = 60 ∧ m ≤ i + 1 ∧ RSh hv m T ∧ TCur w wr tb s T 0 (1 + 3 * i))
  case atStart => exact ⟨0, 0, 1, s0, Q0 1 0, rfl, rfl, rfl, rfl, by omega, .r0 1 0 (by omega), C0.out⟩
  case round =>
    obtain ⟨i, hv, m, s, T, rfl, rfl, rfl, hig, hmi, hsh, hc⟩ := hrel
    have C := Lib.hid hc
    clear hc
    by_cases h60 : (i : Int) < 60
    · by_cases hlt : i < len
      · have hlt' : (i : Int) < (len : Int) := by omega
        have hk9 : (1 + 3 * (i : Int)) ≤ 900000 := by omega
        obtain ⟨b1, o1, rfl, hb1, f1⟩ := HB.out.2.some (by rw [List.length_map, HB.out.1]; omega)
        obtain ⟨x, hx⟩ : ∃ x, bs[i]? = some x := ⟨_, List.getElem?_eq_getElem (by rw [HB.out.1]; exact hlt)⟩
        have c1 : wr.cell? ⟨b1, o1 + i, none⟩ = some (.bool x) := C.out.keep.cell (f1 i _ (mapGet hx)) (fun q => q)
        clear f1 hx hb1
        have v1 := conv97
        have v2 := conv98
        have v3 := conv99
        have v4 := conv100
        have h3 : TCur w wr tb s T 0 (1 + 3 * (i : Int)) → True := fun _ => trivial
        clear h3
        cases hsh with
        | r0 _ t hm1 =>
          have hmk := make_p C.out hk9 right_a 1 3 0 0 0 ByteArray.empty (n := m + 1) (e := 0) (U := Q1 (m + 1) (t + 1) (m + 1)) (by rw [q0_make hm1]) (by rw [q0_make hm1])
          cases x
          all_goals
            go_wp2_with (
              go_at_call 11
              refine (hmk _ (Keep.refl _ _)).mono ?_
              rintro e w2 ⟨rfl, s2, c2, -⟩
              have C2 := Lib.hid c2
              clear hmk c2)
            go_roundg (60 - (i + 1))
            case measure => omega
            case rel => exact ⟨i + 1, 1, m + 1, s2, _, by go_num, by go_num, by go_num, by omega, by omega, .r1 _ _ _ (by omega) (by omega), C2.out.more (by omega)⟩
        | r1 _ t a ha1 ha2 =>
          cases x with
          | true =>
            have hpt := part_t C.out hk9 1 ka
            rw [q1_part ha1] at hpt
            go_wp2_with (
              go_at_call 17
              refine (hpt _ (Keep.refl _ _)).mono ?_
              rintro e w2 ⟨rfl, s2, c2, -⟩
              have C2 := Lib.hid c2
              clear hpt c2)
            go_roundg (60 - (i + 1))
            case measure => omega
            case rel => exact ⟨i + 1, 0, m, s2, _, by go_num, by go_num, by go_num, by omega, by omega, .r0 _ _ (by omega), C2.out.more (by omega)⟩
          | false =>
            have hmk := make_p C.out hk9 right_b 1 3 0 0 0 ByteArray.empty (n := m + 1) (e := 0) (U := Q2 (m + 1) (t + 1) a (m + 1)) (by rw [q1_make ha1 ha2]) (by rw [q1_make ha1 ha2])
            go_wp2_with (
              go_at_call 11
              refine (hmk _ (Keep.refl _ _)).mono ?_
              rintro e w2 ⟨rfl, s2, c2, -⟩
              have C2 := Lib.hid c2
              clear hmk c2)
            go_roundg (60 - (i + 1))
            case measure => omega
            case rel => exact ⟨i + 1, 2, m + 1, s2, _, by go_num, by go_num, by go_num, by omega, by omega, .r2 _ _ _ _ ha1 (by omega) (by omega), C2.out.more (by omega)⟩
        | r2 _ t a b ha1 ha2 ha3 =>
          cases x with
          | true =>
            have hpt := part_t C.out hk9 1 kb
            rw [q2_part ha1 ha2] at hpt
            go_wp2_with (
              go_at_call 17
              refine (hpt _ (Keep.refl _ _)).mono ?_
              rintro e w2 ⟨rfl, s2, c2, -⟩
              have C2 := Lib.hid c2
              clear hpt c2)
            go_roundg (60 - (i + 1))
            case measure => omega
            case rel => exact ⟨i + 1, 1, m, s2, _, by go_num, by go_num, by go_num, by omega, by omega, .r1 _ _ _ ha1 (by omega), C2.out.more (by omega)⟩
          | false =>
            have hmk := make_p C.out hk9 right_cc 1 3 0 0 0 ByteArray.empty (n := m + 1) (e := 0) (U := Q3 (m + 1) (t + 1) a b (m + 1)) (by rw [q2_make ha1 ha2 ha3]) (by rw [q2_make ha1 ha2 ha3])
            go_wp2_with (
              go_at_call 11
              refine (hmk _ (Keep.refl _ _)).mono ?_
              rintro e w2 ⟨rfl, s2, c2, -⟩
              have C2 := Lib.hid c2
              clear hmk c2)
            go_roundg (60 - (i + 1))
            case measure => omega
            case rel => exact ⟨i + 1, 3, m + 1, s2, _, by go_num, by go_num, by go_num, by omega, by omega, .r3 _ _ _ _ _ ha1 ha2 (by omega) (by omega), C2.out.more (by omega)⟩
        | r3 _ t a b c ha1 ha2 ha3 ha4 =>
          cases x with
          | true =>
            have hpt := part_t C.out hk9 1 kc
            rw [q3_part ha1 ha2 ha3] at hpt
            go_wp2_with (
              go_at_call 17
              refine (hpt _ (Keep.refl _ _)).mono ?_
              rintro e w2 ⟨rfl, s2, c2, -⟩
              have C2 := Lib.hid c2
              clear hpt c2)
            go_roundg (60 - (i + 1))
            case measure => omega
            case rel => exact ⟨i + 1, 2, m, s2, _, by go_num, by go_num, by go_num, by omega, by omega, .r2 _ _ _ _ ha1 ha2 (by omega), C2.out.more (by omega)⟩
          | false =>
            have hmk := make_p C.out hk9 right_dd 1 3 0 0 0 ByteArray.empty (n := 0) (e := 43) (U := Q3 m t a b c) (by rw [q3_make]) (by rw [q3_make])
            go_wp2_with (
              go_at_call 11
              refine (hmk _ (Keep.refl _ _)).mono ?_
              rintro e w2 ⟨rfl, s2, c2, -⟩
              have C2 := Lib.hid c2
              clear hmk c2)
            go_roundg (60 - (i + 1))
            case measure => omega
            case rel => exact ⟨i + 1, 3, m, s2, _, by go_num, by go_num, by go_num, by omega, by omega, .r3 _ _ _ _ _ ha1 ha2 ha3 ha4, C2.out.more (by omega)⟩
      · have hlt' : ¬ (i : Int) < (len : Int) := by omega
        have hle := hsh.have_le
        have hnl := hsh.names
        have hN := tnames_c C.out.tab (C.out.small.mono (by omega)) 1
        have H9 := Lib.hid (And.intro hle hnl)
        have HL := Lib.hid (show i ≤ 60 by omega)
        clear hsh
        go_wp2_with (first
          | (go_at_call 18
             refine hN.mono ?_
             rintro e wn ⟨v, rfl, r1, r2, r3⟩
             obtain ⟨va, vc, rfl, -⟩ := rows_val2 r1
             have CN := Lib.hid (C.out.step r2)
             have hK := tknown_c wn
             have g9 : (((T.namesAt 1).length : Int) == hv) = true := by rw [H9.out.2]; simp
             clear hN r1 r2 r3)
          | (go_at_call 16
             refine hK.mono ?_
             rintro e wk ⟨rfl, kk⟩
             have CK := Lib.hid (CN.out.step kk)
             clear hK kk))
        go_ret
        exact ⟨rfl, CK.out.below⟩
    · have h60' : (60 : Int) ≤ (i : Int) := by omega
      by_cases hlt : (i : Int) < (len : Int)
      all_goals
        have hle := hsh.have_le
        have hnl := hsh.names
        have hN := tnames_c C.out.tab (C.out.small.mono (by omega)) 1
        have H9 := Lib.hid (And.intro hle hnl)
        have HL := Lib.hid (show i ≤ 60 by omega)
        clear hsh
        go_wp2_with (first
          | (go_at_call 18
             refine hN.mono ?_
             rintro e wn ⟨v, rfl, r1, r2, r3⟩
             obtain ⟨va, vc, rfl, -⟩ := rows_val2 r1
             have CN := Lib.hid (C.out.step r2)
             have hK := tknown_c wn
             have g9 : (((T.namesAt 1).length : Int) == hv) = true := by rw [H9.out.2]; simp
             clear hN r1 r2 r3)
          | (go_at_call 16
             refine hK.mono ?_
             rintro e wk ⟨rfl, kk⟩
             have CK := Lib.hid (CN.out.step kk)
             clear hK kk))
        go_ret
        exact ⟨rfl, CK.out.below⟩

end Go.Proofs.Ytnjfcedkfobbcaa
