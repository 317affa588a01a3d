/-
  Calls held against one another (warrenkeep.Call): what is the same is told so.
-/
import Derived.Test.YtdbkkfhneafeiaaDoorBSr
import Derived.Test.YtdbkkfhneafeiaaDoorRight0
import Derived.Test.YtdbkkfhneafeiaaDoorLaws
namespace Go.Proofs.YtdbkkfhneafeiaaDoor
open Go Go.RowKit
set_option linter.unusedSectionVars false
set_option linter.unusedSimpArgs false
set_option linter.unusedVariables false
set_option maxRecDepth 100000

set_option maxHeartbeats 4000000 in
theorem kcall_c {w : World} {c : CallV} {a1 a2 : Option Addr} {cap1 cap2 : Nat} (h1 : BSr w (.slice a1 c.data.length cap1) c.data) (h2 : BSr w (.slice a2 c.data.length cap2) c.data) :
    Calls Tryd.prog 14 #[callA c (.slice a1 c.data.length cap1), callA c (.slice a2 c.data.length cap2)] w fun r w' => r = .returned (.bool true) ∧ Keep w w' (fun _ => False) := by
  have k1 : ∀ o1 o2, Keep w ((w.alloc o1).alloc o2) (fun _ => False) := fun o1 o2 => (Keep.alloc w o1 (fun _ => False)).trans (Keep.alloc _ o2 (fun _ => False)) (fun _ q => q.elim)
  have e1 : ∀ o1 o2, (convert 22 9 (.slice a1 c.data.length cap1)).run Tryd.prog ((w.alloc o1).alloc o2) = .ok (.string (strB c.data)) ((w.alloc o1).alloc o2) := fun o1 o2 => str_ofr 22 9 Tryd.underlying22 Tryd.underlying5 Tryd.underlying9 (h1.aside (k1 o1 o2))
  have e2 : ∀ o1 o2, (convert 22 9 (.slice a2 c.data.length cap2)).run Tryd.prog ((w.alloc o1).alloc o2) = .ok (.string (strB c.data)) ((w.alloc o1).alloc o2) := fun o1 o2 => str_ofr 22 9 Tryd.underlying22 Tryd.underlying5 Tryd.underlying9 (h2.aside (k1 o1 o2))
  clear h1 h2
  obtain ⟨op, path, tt, fd, fl, md, n, m, dat⟩ := c
  simp only [callA] at e1 e2 ⊢
  go_enter Tryd.func14, Tryd.ntmps14
  go_wp2
  go_ret
  exact ⟨rfl, k1 _ _⟩

end Go.Proofs.YtdbkkfhneafeiaaDoor
