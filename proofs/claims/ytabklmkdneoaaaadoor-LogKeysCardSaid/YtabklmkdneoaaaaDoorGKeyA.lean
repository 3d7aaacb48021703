/- Chapter 26, keys: configurations: may they be? -/
import Derived.Test.YtabklmkdneoaaaaDoorGD
import Derived.Test.YtabklmkdneoaaaaDoorOpenStr
import Derived.Deep.Light
namespace Go.Proofs.YtabklmkdneoaaaaDoor
open Go.RowKit

def fromB (v a b : Int) : Bool := decide (a ≤ v) && decide (v ≤ b)
def mayC (c : ConfS) : Bool := decide (0 ≤ c.qmin) && decide (c.qmin ≤ c.qmax) && decide (c.qmax ≤ 15) && decide (0 ≤ c.reach) && decide (c.reach ≤ 7) && decide (0 ≤ c.cut) && decide (c.cut ≤ 16320) && decide (1 ≤ c.gop) && decide (c.gop ≤ 16) && decide (8 ≤ c.rate) && decide (c.rate ≤ c.room) && decide (c.room ≤ 16384) && decide (8 ≤ c.fill) && decide (c.fill ≤ c.room)
theorem vfrom_any (v a b : Int) (w : World) : Calls Tryd.prog 110 #[.int .i64 v, .int .i64 a, .int .i64 b] w fun e w' => e = .returned (.bool (fromB v a b)) ∧ w = w' := by
  go_enter Tryd.func110, Tryd.ntmps110
  go_wp2_with fail
  all_goals
    go_ret
    refine ⟨ret_bool ?_, rfl⟩
    unfold fromB
    rw [Bool.eq_iff_iff]
    simp [*]
    try omega
set_option maxRecDepth 100000 in
set_option maxHeartbeats 2000000 in
theorem vmay_any (c : ConfS) (w : World) : Calls Tryd.prog 106 #[c.val] w fun e w' => e = .returned (.bool (mayC c)) ∧ Below w.heap.size w w' := by
  obtain ⟨c0, c1, c2, c3, c4, c5, c6, c7⟩ := c
  unfold ConfS.val
  dsimp only
  have he : mayC ⟨c0, c1, c2, c3, c4, c5, c6, c7⟩ = (fromB c0 0 c1 && decide (c1 ≤ 15) && (fromB c2 0 7 && fromB c3 0 16320 && fromB c4 1 16) && fromB c5 8 c6 && decide (c6 ≤ 16384) && fromB c7 8 c6) := by
    unfold mayC fromB
    dsimp only
    simp only [Bool.and_assoc]
  rw [he]
  clear he
  go_enter Tryd.func106, Tryd.ntmps106
  go_wp2_with (go_at_call 110; refine (vfrom_any _ _ _ _).mono ?_; rintro e w2 ⟨rfl, rfl⟩)
  all_goals
    go_ret
    refine ⟨ret_bool ?_, (Below.refl _ _).alloc (Nat.le_refl _) _⟩
    go_light
    first
      | (simp [*]; done)
      | (simp [*]; omega)
theorem vcheck_any (c : ConfS) (w : World) : Calls Tryd.prog 96 #[c.val] w fun e w' => e = .returned (codeV (if mayC c then 0 else 11)) ∧ Below w.heap.size w w' := by
  have HM := hid (fun W => vmay_any c W)
  unfold ConfS.val at *
  have hb : Below w.heap.size w (w.alloc (.cells #[.int .i64 c.qmin, .int .i64 c.qmax, .int .i64 c.reach, .int .i64 c.cut, .int .i64 c.gop, .int .i64 c.rate, .int .i64 c.room, .int .i64 c.fill] 116)) := (Below.refl _ _).alloc (Nat.le_refl _) _
  have HB := hid hb
  clear hb
  cases hm : mayC c
  all_goals
    rw [hm] at HM
    go_enter Tryd.func96, Tryd.ntmps96
    go_wp2_with fail
    refine (HM.out _).mono ?_
    rintro e w2 ⟨rfl, h2⟩
    go_wp2_with fail
    go_ret
    exact ⟨rfl, HB.out.trans (h2.mono HB.out.size)⟩
set_option maxRecDepth 100000 in
set_option maxHeartbeats 2000000 in
theorem kmay_any (c : ConfS) (w : World) : Calls Tryd.prog 98 #[c.val] w fun e w' => e = .returned (.bool (mayC c)) ∧ Below w.heap.size w w' := by
  obtain ⟨c0, c1, c2, c3, c4, c5, c6, c7⟩ := c
  unfold ConfS.val
  dsimp only
  go_enter Tryd.func98, Tryd.ntmps98
  go_wp2_with fail
  all_goals
    go_ret
    refine ⟨ret_bool ?_, (Below.refl _ _).alloc (Nat.le_refl _) _⟩
    go_light
    unfold mayC
    dsimp only
    first
      | (simp [*]; done)
      | (simp [*]; omega)
theorem conf_nat {c : ConfS} (h : mayC c = true) : ∃ c0 c1 c2 c3 c4 c5 c6 c7 : Nat, c = ⟨c0, c1, c2, c3, c4, c5, c6, c7⟩ ∧ c0 ≤ 15 ∧ c1 ≤ 15 ∧ c2 ≤ 7 ∧ c3 ≤ 16320 ∧ c4 ≤ 16 ∧ c5 ≤ 16384 ∧ c6 ≤ 16384 ∧ c7 ≤ 16384 := by
  obtain ⟨c0, c1, c2, c3, c4, c5, c6, c7⟩ := c
  unfold mayC at h
  simp only [Bool.and_eq_true, decide_eq_true_eq] at h
  obtain ⟨⟨⟨⟨⟨⟨⟨⟨⟨⟨⟨⟨⟨h0, h1⟩, h2⟩, h3⟩, h4⟩, h5⟩, h6⟩, h7⟩, h8⟩, h9⟩, h10⟩, h11⟩, h12⟩, h13⟩ := h
  exact ⟨c0.toNat, c1.toNat, c2.toNat, c3.toNat, c4.toNat, c5.toNat, c6.toNat, c7.toNat, by congr 1 <;> omega, by omega, by omega, by omega, by omega, by omega, by omega, by omega, by omega⟩
end Go.Proofs.YtabklmkdneoaaaaDoor
