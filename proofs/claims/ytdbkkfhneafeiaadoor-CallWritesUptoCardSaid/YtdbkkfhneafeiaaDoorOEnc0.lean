/-
  Texts are written behind their length (call.text).
-/
import Derived.Test.YtdbkkfhneafeiaaDoorCode1
import Derived.Test.YtdbkkfhneafeiaaDoorLaws
import Derived.Test.YtdbkkfhneafeiaaDoorHeaps
import Derived.Test.YtdbkkfhneafeiaaDoorChecked
import Derived.WalkMore
namespace Go.Proofs.YtdbkkfhneafeiaaDoor
open Go Go.RowKit
set_option linter.unusedSectionVars false
set_option linter.unusedSimpArgs false
set_option linter.unusedVariables false
set_option maxRecDepth 100000

/-- Bytes that are one's own. -/
def OwnB (w : World) (v : Value) (l : Bs) : Prop := w.ownsRow 0 5 1 v l.length (l.map u8V)

theorem OwnB.val {w : World} {v : Value} {l : Bs} (h : OwnB w v l) : ∃ a n cap, v = .slice a n cap ∧ n = l.length := by
  obtain ⟨a, cap, e, _⟩ := rows_val2 h
  exact ⟨a, _, cap, e, rfl⟩

theorem OwnB.keep {w w' : World} {v : Value} {l : Bs} {S : Nat → Prop} (h : OwnB w v l) (k : Keep w w' S) (hS : ∀ b, v.ownBlock = some b → ¬ S b) : OwnB w' v l := rows_keep h k hS

theorem OwnB.lt {w : World} {v : Value} {l : Bs} (h : OwnB w v l) : ∀ b, v.ownBlock = some b → b < w.heap.size := by
  intro b q
  rcases rows_val h with ⟨rfl, _⟩ | ⟨g, cap, rfl, _, h2, h3⟩
  · simp [Value.ownBlock] at q
  · rw [h2] at q; cases q; exact h3

theorem u8_info : ∃ i, Tryd.prog.info? 5 = some i ∧ i.zero = some (.int .u8 0) ∧ i.size = 1 ∧ i.bytes = 1 := by
  refine ⟨_, rfl, ?_, ?_, ?_⟩
  · kernel_rfl
  · kernel_rfl
  · kernel_rfl

theorem rows_own {w : World} {l : Bs} {v : Value} {n : Nat} {xs : List Value} (h : w.ownsRow 0 5 1 v n xs) (hn : n = l.length) (hx : xs = l.map u8V) : OwnB w v l := by
  subst hn hx; exact h

theorem be2_vals (n : Nat) : (be2 n).map u8V = [.int .u8 ((n : Int) / 256 % 256), .int .u8 ((n : Int) % 256)] := by
  unfold be2 u8V
  simp only [List.map_cons, List.map_nil, byte_toNat]
  rw [Int.natCast_emod, Int.natCast_emod, Int.natCast_ediv]
  rfl

set_option maxHeartbeats 4000000 in
theorem otxt_c {w : World} {v : Value} {l : Bs} (s : ByteArray) (h : OwnB w v l) (hl : l.length ≤ 1000000000) (hs : s.size ≤ 70000) :
    Calls Tryd.prog 37 #[v, .string s] w fun r w' => ∃ a' n' cap', r = .returned (.slice a' n' cap') ∧ OwnB w' (.slice a' n' cap') (l ++ txt (bsOf s)) ∧ Keep w w' (fun b => some b = v.ownBlock) ∧ ∀ b, (Value.slice a' n' cap').ownBlock = some b → v.ownBlock = some b ∨ w.heap.size ≤ b := by
  obtain ⟨a, cap, rfl, hc⟩ := rows_val2 h
  obtain ⟨ti, ti1, ti2, ti3, ti4⟩ := u8_info
  have HI := Lib.hid (And.intro ti1 (And.intro ti2 (And.intro ti3 ti4)))
  have H := Lib.hid (show w.ownsRow 0 5 1 (.slice a l.length cap) l.length (l.map u8V) from h)
  clear h ti1 ti2 ti3 ti4
  generalize hn : l.length = n at *
  have HN := Lib.hid hn
  clear hn
  go_enter Tryd.func37, Tryd.ntmps37
  go_wp2_with (
    first
    | (at_builtin
       refine law_append_row rfl _ _ _ rfl Tryd.underlying22 HI.out.1 HI.out.2.1 HI.out.2.2.1 (by rw [HI.out.2.2.2]; decide) rfl (by decide) rfl (rows_keep H.out (Keep.alloc w (.cells #[.int .u8 ((s.size : Int) / 256 % 256), .int .u8 ((s.size : Int) % 256)] 5) (fun _ => False)) (fun _ _ z => z)) [.int .u8 ((s.size : Int) / 256 % 256), .int .u8 ((s.size : Int) % 256)] rfl rfl (.inr ⟨_, rfl, cells_new w _ _⟩) (by intro u hu; simp at hu; rcases hu with rfl | rfl <;> rfl) (by omega) ?_
       intro a2 cap2 w2 r1 r2 r3
       have N := Lib.hid (And.intro r1 (And.intro r2 r3))
       clear r1 r2 r3)
    | (at_builtin
       refine law_append_str rfl _ _ _ _ rfl Tryd.underlying22 Tryd.underlying9 HI.out.1 HI.out.2.1 HI.out.2.2.1 HI.out.2.2.2 rfl N.out.1 (s := s) rfl (by omega) ?_
       intro a3 cap3 w3 r1 r2 r3
       have M := Lib.hid (And.intro r1 (And.intro r2 r3))
       clear r1 r2 r3))
  go_ret
  have kA := Keep.alloc w (.cells #[.int .u8 ((s.size : Int) / 256 % 256), .int .u8 ((s.size : Int) % 256)] 5) (fun _ => False)
  have hz : (w.alloc (.cells #[.int .u8 ((s.size : Int) / 256 % 256), .int .u8 ((s.size : Int) % 256)] 5)).heap.size = w.heap.size + 1 := by simp
  have hg : ∀ b, (Value.slice a2 (n + 2) cap2).ownBlock = some b → (Value.slice a n cap).ownBlock = some b ∨ w.heap.size ≤ b := fun b q => by
    rcases N.out.2.2 b q with z | z
    · exact .inl z
    · right; omega
  have kz : w.heap.size ≤ w2.heap.size := by have := N.out.2.1.size; omega
  refine ⟨_, _, _, rfl, ?_, ?_, fun b q => ?_⟩
  · refine rows_own M.out.1 ?_ ?_
    · unfold txt; rw [List.length_append, List.length_append, HN.out, bsOf_len]; show _ = n + (2 + s.size); omega
    · unfold txt; rw [List.map_append, List.map_append, bsOf_len, be2_vals, List.append_assoc]
  · refine (kA.mono (T := fun b => some b = (Value.slice a n cap).ownBlock) (fun _ q => q.elim)).trans (N.out.2.1.trans M.out.2.1 (fun b q => ?_)) (fun b q => .inl q)
    rcases N.out.2.2 b q.symm with z | z
    · exact .inl z.symm
    · exact .inr (by omega)
  · rcases M.out.2.2 b q with z | z
    · exact hg b z
    · right; omega

end Go.Proofs.YtdbkkfhneafeiaaDoor
