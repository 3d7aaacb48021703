/- The model: learn, Chance, context, bound. -/
import Derived.Test.YtnlfnknkiggejaaDoorModBegin
import Derived.Test.YtnlfnknkiggejaaDoorModSpec
namespace Go.Proofs.YtnlfnknkiggejaaDoor
open Go.RowKit

theorem context_yes (c : Int) (w : World) (h1 : 0 ≤ c) (h2 : c < 64) : Calls Tryd.prog 74 #[.int .i64 c] w fun e w' => e = .returned (.bool true) ∧ w = w' := by
  go_enter Tryd.func74, Tryd.ntmps74
  go_wp2
  go_ret
  exact ⟨rfl, rfl⟩
theorem context_no (c : Int) (w : World) (h : c < 0 ∨ 64 ≤ c) : Calls Tryd.prog 74 #[.int .i64 c] w fun e w' => e = .returned (.bool false) ∧ w = w' := by
  rcases h with h | h
  · go_enter Tryd.func74, Tryd.ntmps74
    go_wp2
    go_ret
    exact ⟨rfl, rfl⟩
  · have h' : 0 ≤ c := by omega
    have h2 : decide (c < 64) = false := by simp; omega
    go_enter Tryd.func74, Tryd.ntmps74
    go_wp2
    go_ret
    exact ⟨rfl, rfl⟩
theorem bound_any (v lo hi : Int) (w : World) : Calls Tryd.prog 96 #[.int .i64 v, .int .i64 lo, .int .i64 hi] w fun e w' => e = .returned (.int .i64 (cut v lo hi)) ∧ w = w' := by
  go_enter Tryd.func96, Tryd.ntmps96
  go_wp2
  go_ret
  exact ⟨rfl, rfl⟩

set_option maxRecDepth 100000 in
set_option maxHeartbeats 400000 in
theorem learn_any (b c p : Nat) (u : Bool) (w : World) (hc : c < 64) (hp : w.cell? ⟨b, c, none⟩ = some (.int .i64 p)) (hf : w.frozen? ⟨b, c, none⟩ = false) (hp1 : p ≤ 2017) :
    Calls Tryd.prog 133 #[.pointer (some ⟨b, 0, none⟩), .int .i64 c, .bool u] w fun e w' => e = .returned (.tuple #[]) ∧ w' = (w.setCell ⟨b, c, none⟩ (.int .i64 (learnP p u : Nat))).drew := by
  have c0 : (0 : Int) ≤ (c : Int) := by omega
  have c1 : (c : Int) < 64 := by omega
  cases u with
  | true =>
    have e : (p : Int) - (p : Int) / 32 = ((learnP p true : Nat) : Int) := by simp only [learnP]; simp; omega
    have E := hid e
    clear e
    go_enter Tryd.func133, Tryd.ntmps133
    go_wp2
    go_region
    go_wp2
    go_end0
    rw [← E.out]
    exact ⟨rfl, rfl⟩
  | false =>
    have e : (p : Int) + (2048 - (p : Int)) / 32 = ((learnP p false : Nat) : Int) := by simp only [learnP]; simp; omega
    have E := hid e
    clear e
    go_enter Tryd.func133, Tryd.ntmps133
    go_wp2
    go_region
    go_wp2
    go_end0
    rw [← E.out]
    exact ⟨rfl, rfl⟩

theorem chance_at (b c p : Nat) (w : World) (hc : c < 64) (hp : w.cell? ⟨b, c, none⟩ = some (.int .i64 p)) :
    Calls Tryd.prog 31 #[.pointer (some ⟨b, 0, none⟩), .int .i64 c] w fun e w' => e = .returned (.int .i64 p) ∧ w = w' := by
  have c0 : (0 : Int) ≤ (c : Int) := by omega
  have c1 : (c : Int) < 64 := by omega
  go_enter Tryd.func31, Tryd.ntmps31
  go_wp2_with (go_at_call 74; refine (context_yes c _ (by omega) (by omega)).mono ?_; rintro e w' ⟨rfl, rfl⟩)
  go_ret
  exact ⟨rfl, rfl⟩
theorem chance_out (b : Nat) (c : Int) (w : World) (h : c < 0 ∨ 64 ≤ c) :
    Calls Tryd.prog 31 #[.pointer (some ⟨b, 0, none⟩), .int .i64 c] w fun e w' => e = .returned (.int .i64 0) ∧ w = w' := by
  go_enter Tryd.func31, Tryd.ntmps31
  go_wp2_with (go_at_call 74; refine (context_no c _ h).mono ?_; rintro e w' ⟨rfl, rfl⟩)
  go_ret
  exact ⟨rfl, rfl⟩
end Go.Proofs.YtnlfnknkiggejaaDoor
