/- Small functions that only reckon: chance, context, bound. -/
import Derived.Test.YtnlfnknkiggejaaDoorProg
import Derived.Test.YtnlfnknkiggejaaDoorMem
import Derived.Lib.MinMax
namespace Go.Proofs.YtnlfnknkiggejaaDoor
open Go.RowKit

theorem chance_yes (p : Int) (w : World) (h1 : 1 ≤ p) (h2 : p ≤ 2047) : Calls Tryd.prog 135 #[.int .i64 p] w fun e w' => e = .returned (.bool true) ∧ w = w' := by
  go_enter Tryd.func135, Tryd.ntmps135
  go_wp2
  go_ret
  exact ⟨rfl, rfl⟩
theorem chance_no (p : Int) (w : World) (h : p < 1 ∨ 2047 < p) : Calls Tryd.prog 135 #[.int .i64 p] w fun e w' => e = .returned (.bool false) ∧ w = w' := by
  rcases h with h | h
  · go_enter Tryd.func135, Tryd.ntmps135
    go_wp2
    go_ret
    exact ⟨rfl, rfl⟩
  · have h' : 1 ≤ p := by omega
    have h2 : decide (p ≤ 2047) = false := by simp; omega
    go_enter Tryd.func135, Tryd.ntmps135
    go_wp2
    go_ret
    exact ⟨rfl, rfl⟩
end Go.Proofs.YtnlfnknkiggejaaDoor
