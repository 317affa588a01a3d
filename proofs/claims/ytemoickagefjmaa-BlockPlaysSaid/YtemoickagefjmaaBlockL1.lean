/-
  Within; a pool of one file, plainly.
-/
import Derived.Test.YtemoickagefjmaaBlockL0
import Derived.Test.YtemoickagefjmaaLaws2
import Derived.Deep.Cut
namespace Go.Proofs.Ytemoickagefjmaa
open Go Go.RowKit
set_option linter.unusedSectionVars false
set_option linter.unusedSimpArgs false
set_option linter.unusedVariables false
set_option maxRecDepth 100000

theorem within_c (w : World) (n lo hi : Int) (h0 : 0 ≤ lo) (h1 : lo ≤ hi) (h2 : hi ≤ 1000000) :
    Calls Try.prog 31 #[.int .i64 n, .int .i64 lo, .int .i64 hi] w fun r w' => ∃ m : Int, lo ≤ m ∧ m ≤ hi ∧ r = .returned (.int .i64 m) ∧ w = w' := by
  have hd : 0 < hi - lo + 1 := by omega
  by_cases hn : 0 ≤ n
  · have hm := Int.emod_nonneg n (b := hi - lo + 1) (by omega)
    have hm2 := Int.emod_lt_of_pos n hd
    go_enter Try.func31, Try.ntmps31
    go_wp2
    go_ret
    exact ⟨_, by omega, by omega, rfl, rfl⟩
  · have hm : -(hi - lo + 1) < n.tmod (hi - lo + 1) ∧ n.tmod (hi - lo + 1) ≤ 0 := by
      have e : (-n).tmod (hi - lo + 1) = (-n) % (hi - lo + 1) := Int.tmod_eq_emod_of_nonneg (by omega)
      rw [Int.neg_tmod] at e
      have h3 := Int.emod_nonneg (-n) (b := hi - lo + 1) (by omega)
      have h4 := Int.emod_lt_of_pos (-n) hd
      omega
    obtain ⟨hm1, hm2⟩ := hm
    go_enter Try.func31, Try.ntmps31
    go_wp2
    all_goals
      go_ret
      exact ⟨_, by omega, by omega, rfl, rfl⟩

def One (L : Int) (F : FileV) : PoolV := ⟨L, 1, [(1, F)]⟩

theorem one_file (n : Int) : PoolV.file ⟨n, 0, []⟩ = One n FileV.empty := rfl

theorem lacks_le (F : FileV) (p e : Int) (h : p / 16 ≤ (e - 1) / 16 + 1) : F.lacks p e ≤ (e - 1) / 16 - p / 16 + 1 := by
  unfold FileV.lacks
  have := List.length_filter_le (fun k => !decide (k ∈ F.keys)) (span (p / 16) ((e - 1) / 16))
  have h2 : (span (p / 16) ((e - 1) / 16)).length = ((e - 1) / 16 + 1 - p / 16).toNat := by simp [span]
  omega

theorem one_write (L : Int) (F : FileV) (p : Int) (l : List Int) (h0 : 0 ≤ p) (h1 : l ≠ []) (h2 : p + l.length ≤ 1024) (h3 : F.lacks p (p + l.length) ≤ L) :
    (One L F).write 1 p l = (One (L - F.lacks p (p + l.length)) { F.puts p l with size := max F.size (p + l.length) }, 0) := by
  have hpos : 0 < l.length := List.length_pos_iff.2 h1
  unfold PoolV.write One
  simp only [aget, if_true, aset]
  rw [if_neg (by omega), if_neg h1, if_neg (by omega), if_neg (by omega)]

theorem one_write_nil (L : Int) (F : FileV) (p : Int) (h0 : 0 ≤ p) : (One L F).write 1 p [] = (One L F, 0) := by
  unfold PoolV.write One
  simp only [aget, if_true]
  rw [if_neg (by omega)]

theorem one_read (L : Int) (F : FileV) (n : Int) (h0 : 0 ≤ n) (h1 : 0 ≤ F.size) (h2 : F.size ≤ n) : (One L F).read 1 0 n = ((List.range F.size.toNat).map fun (i : Nat) => F.byte i, 0) := by
  unfold PoolV.read One
  simp only [aget, if_true]
  rw [if_neg (by omega)]
  by_cases h : F.size ≤ 0
  · rw [if_pos h]
    have : F.size.toNat = 0 := by omega
    rw [this]; rfl
  · rw [if_neg h]
    unfold FileV.read
    have : (min n (F.size - 0)).toNat = F.size.toNat := by omega
    rw [this]
    simp


/-- How things stand in a statement's walk: since w0 nothing old has turned, the pool is new. -/
structure Cur (w0 w : World) (pb : Nat) (S : Nat → Prop) (V : PoolV) (n : Int) : Prop where
  pool : PoolAt w pb S V
  keep : Keep w0 w (fun _ => False)
  new : ∀ b, S b → w0.heap.size ≤ b
  ok : V.ok n

theorem Cur.made {w0 w1 w : World} {pb : Nat} {S : Nat → Prop} {V : PoolV} {n : Int} (hk : Keep w0 w1 (fun _ => False)) (hp : PoolAt w pb S V) (ht : Turn w1 (fun _ => False) w S) (ho : V.ok n) : Cur w0 w pb S V n :=
  ⟨hp, hk.trans ht.keep (fun b q => q.elim), fun b q => (ht.new b q).elim (fun z => z.elim) (fun z => by have := hk.size; omega), ho⟩
theorem Cur.turn {w0 w w' : World} {pb : Nat} {S S' : Nat → Prop} {V V' : PoolV} {n n' : Int} (c : Cur w0 w pb S V n) (hp : PoolAt w' pb S' V') (ht : Turn w S w' S') (ho : V'.ok n') : Cur w0 w' pb S' V' n' :=
  ⟨hp, c.keep.trans ht.keep (fun b q => .inr (c.new b q)), fun b q => (ht.new b q).elim (c.new b) (fun z => by have := c.keep.size; omega), ho⟩
theorem Cur.step {w0 w w' : World} {pb : Nat} {S : Nat → Prop} {V : PoolV} {n : Int} (c : Cur w0 w pb S V n) (hk : Keep w w' (fun _ => False)) : Cur w0 w' pb S V n :=
  ⟨c.pool.keep hk (fun b _ q => q), c.keep.trans hk (fun b q => q.elim), c.new, c.ok⟩
/-- A step that turns new memory beside the pool. -/
theorem Cur.beside {w0 w w' : World} {pb : Nat} {S T : Nat → Prop} {V : PoolV} {n : Int} (c : Cur w0 w pb S V n) (hk : Keep w w' T) (hT : ∀ b, T b → w0.heap.size ≤ b ∧ ¬ S b) : Cur w0 w' pb S V n :=
  ⟨c.pool.keep hk (fun b q z => (hT b z).2 q), c.keep.trans hk (fun b q => .inr (hT b q).1), c.new, c.ok⟩
theorem Cur.bytes {w0 w : World} {pb : Nat} {S : Nat → Prop} {V : PoolV} {n : Int} (c : Cur w0 w pb S V n) {v : Value} {l : List Int} (h : BytesIn w0 v l (fun b => w0.heap.size ≤ b)) : BytesIn w v l S :=
  (h.keep c.keep (fun b q => q.elim)).mono c.new
theorem Cur.below {w0 w : World} {pb : Nat} {S : Nat → Prop} {V : PoolV} {n : Int} (c : Cur w0 w pb S V n) : Below w0.heap.size w0 w := c.keep.below (Nat.le_refl _) (fun b q => q.elim)

def FileV.wrote (F : FileV) (p : Int) (l : List Int) : FileV := if l = [] then F else { F.puts p l with size := max F.size (p + l.length) }

theorem FileV.wrote_ok {F : FileV} (h : F.ok) {p : Int} {l : List Int} (h0 : 0 ≤ p) (h1 : p + l.length ≤ 1024) (hl : ∀ c ∈ l, 0 ≤ c ∧ c < 256) : (F.wrote p l).ok := by
  unfold FileV.wrote
  split
  · exact h
  · exact FileV.write_ok h h0 h1 hl

theorem FileV.wrote_byte (F : FileV) (p : Int) (l : List Int) : (F.wrote p l).byte = putF F.byte p l := by
  funext q
  unfold FileV.wrote putF
  split
  · rename_i h; subst h
    rw [if_neg (by simp only [List.length_nil]; omega)]
  · exact FileV.puts_byte l F p q

theorem FileV.wrote_size (F : FileV) (p : Int) (l : List Int) : (l = [] → (F.wrote p l).size = F.size) ∧ (l ≠ [] → (F.wrote p l).size = max F.size (p + l.length)) := by
  unfold FileV.wrote
  constructor
  · intro h; rw [if_pos h]
  · intro h; rw [if_neg h]

/-- A write into the one file of a pool that has room for a whole file. -/
theorem one_wrote (L : Int) (F : FileV) (p : Int) (l : List Int) (hF : F.ok) (h0 : 0 ≤ p) (h2 : p + l.length ≤ 1024) (hl : ∀ c ∈ l, 0 ≤ c ∧ c < 256) (hr : 64 ≤ L + F.keys.length) :
    (One L F).write 1 p l = (One (L + F.keys.length - (F.wrote p l).keys.length) (F.wrote p l), 0) := by
  by_cases h : l = []
  · subst h
    rw [one_write_nil _ _ _ h0]
    unfold FileV.wrote
    rw [if_pos rfl]
    have : L + (F.keys.length : Int) - F.keys.length = L := by omega
    rw [this]
  · have hlen := FileV.puts_len F p l hF h0 h2 hl h
    have hk := keys_len (FileV.puts_ok l hF h0 h2 hl)
    rw [one_write L F p l h0 h h2 (by omega)]
    unfold FileV.wrote
    rw [if_neg h]
    have : L - F.lacks p (p + l.length) = L + (F.keys.length : Int) - (F.puts p l).keys.length := by omega
    rw [this]

theorem one_ok {L : Int} {F : FileV} (hF : F.ok) (h0 : 0 ≤ L) {n : Int} (h1 : L + F.keys.length = n) (h2 : n ≤ 256) : (One L F).ok n :=
  ⟨h0, by simp [One, PoolV.total]; exact h1, h2, by simp [One], by simp [One], by simp [One], by simp [One]; exact hF⟩

theorem one_read' (L : Int) (F : FileV) (n : Int) (hF : F.ok) (h2 : 1024 ≤ n) : (One L F).read 1 0 n = (listF F.size.toNat F.byte, 0) :=
  one_read L F n (by omega) hF.1 (by have := hF.2.1; omega)

theorem one_wrote_empty (p : Int) (l : List Int) (h0 : 0 ≤ p) (h2 : p + l.length ≤ 1024) (hl : ∀ c ∈ l, 0 ≤ c ∧ c < 256) :
    (One 256 FileV.empty).write 1 p l = (One (256 - (FileV.empty.wrote p l).keys.length) (FileV.empty.wrote p l), 0) := by
  have h := one_wrote 256 FileV.empty p l FileV.empty_ok h0 h2 hl (by show (64 : Int) ≤ 256 + 0; omega)
  have e : (256 : Int) + (FileV.empty.keys.length : Int) - (FileV.empty.wrote p l).keys.length = 256 - (FileV.empty.wrote p l).keys.length := by
    show (256 : Int) + 0 - _ = _
    omega
  rw [e] at h
  exact h

theorem one_wrote_next (F : FileV) (p : Int) (l : List Int) (hF : F.ok) (h0 : 0 ≤ p) (h2 : p + l.length ≤ 1024) (hl : ∀ c ∈ l, 0 ≤ c ∧ c < 256) :
    (One (256 - F.keys.length) F).write 1 p l = (One (256 - (F.wrote p l).keys.length) (F.wrote p l), 0) := by
  have h := one_wrote (256 - F.keys.length) F p l hF h0 h2 hl (by omega)
  have e : (256 : Int) - (F.keys.length : Int) + (F.keys.length : Int) - (F.wrote p l).keys.length = 256 - (F.wrote p l).keys.length := by omega
  rw [e] at h
  exact h

theorem write_refused (V : PoolV) (f p : Int) (l : List Int) (h : (V.write f p l).2 ≠ 0) : (V.write f p l).1 = V := by
  unfold PoolV.write at *
  cases hg : aget V.files f with
  | none => rfl
  | some F =>
    rw [hg] at h
    dsimp only at h ⊢
    split
    · rfl
    · split
      · rfl
      · split
        · rfl
        · split
          · rfl
          · rename_i h1 h2 h3 h4
            rw [if_neg h1, if_neg h2, if_neg h3, if_neg h4] at h
            exact absurd rfl h

theorem PoolV.ok.read_bytes {V : PoolV} {m : Int} (h : V.ok m) (f p n : Int) : ∀ c ∈ (V.read f p n).1, 0 ≤ c ∧ c < 256 := by
  unfold PoolV.read
  cases hg : aget V.files f with
  | none => intro c hc; simp at hc
  | some F =>
    have hF := h.files _ (aget_mem hg)
    dsimp only
    split
    · intro c hc; simp at hc
    · split
      · intro c hc; simp at hc
      · intro c hc
        obtain ⟨i, _, rfl⟩ := List.mem_map.1 hc
        exact hF.2.2.2.2.2 _

theorem PoolV.read_len (V : PoolV) (f p n : Int) (m : Int) (h : V.ok m) (hp : 0 ≤ p) : (V.read f p n).1.length ≤ 1024 := by
  unfold PoolV.read
  cases hg : aget V.files f with
  | none => simp
  | some F =>
    have hF := h.files _ (aget_mem hg)
    have hF1 : F.size ≤ 1024 := hF.2.1
    dsimp only
    split
    · simp
    · split
      · simp
      · show (F.read p n).length ≤ 1024
        have : (F.read p n).length = (min n (F.size - p)).toNat := by simp [FileV.read]
        omega

theorem one_used (L : Int) (F : FileV) : (One L F).used 1 = F.keys.length := rfl
theorem one_size (L : Int) (F : FileV) : (One L F).size 1 = F.size := rfl
theorem FileV.cut_size (F : FileV) (s : Int) : (F.cut s).size = s := rfl

/-- Its block is there: it is none of what comes later. -/
theorem BytesIn.old {w : World} {v : Value} {l : List Int} {D : Nat → Prop} (h : BytesIn w v l D) : BytesIn w v l (fun b => w.heap.size ≤ b) := by
  obtain ⟨h1, a, cap, h2, h3⟩ := h
  refine ⟨h1, a, cap, h2, ?_⟩
  by_cases hl : l = []
  · exact .inl hl
  · obtain ⟨b, off, h4, _, h6⟩ := h3.resolve_left hl
    refine .inr ⟨b, off, h4, fun q => ?_, h6⟩
    have h7 := World.block_lt_of_cell? w _ (h6 0 (List.length_pos_iff.2 hl))
    have : b < w.heap.size := h7
    omega

end Go.Proofs.Ytemoickagefjmaa
