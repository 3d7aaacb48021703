/- The decoder: Code, Flat, Over, NewDecoder. -/
import Derived.Test.YtnlfnknkiggejaaDoorDecWalks
import Derived.Test.YtnlfnknkiggejaaDoorSmall
namespace Go.Proofs.YtnlfnknkiggejaaDoor
open Go.RowKit

theorem dec_narrow_at (b g c v : Nat) (x : Int) (hx : x = (v : Nat)) (d : Dec) (w : World) (hd : DecAt w b g c d) (ho : d.Ok 1000000000) (hv1 : 1 ≤ v) (hv2 : v < d.r) :
    Calls Tryd.prog 144 #[.pointer (some ⟨b, 0, none⟩), .int .u64 x] w fun e w' => e = .returned (.bool (d.bit v)) ∧ DecPart w b g c (d.narrow v) w' := by
  subst hx
  obtain ⟨bs, at_, off, r⟩ := d
  exact dec_narrow b g c v bs at_ off r w hd ho.at_ hv1 hv2 ho.off ho.r1

set_option maxHeartbeats 400000 in
theorem dec_flat (b g c : Nat) (d : Dec) (w : World) (hd : DecAt w b g c d) (ho : d.Ok 1000000000) :
    Calls Tryd.prog 143 #[.pointer (some ⟨b, 0, none⟩)] w fun e w' => e = .returned (.bool (d.bit (d.r / 2))) ∧ DecPart w b g c (d.narrow (d.r / 2)) w' := by
  have h3 := hd.blk.cell 3
  simp [decCells] at h3
  have D := hid (And.intro hd ho)
  have hr0 := ho.r0
  have hr1 := ho.r1
  clear hd ho
  generalize hr : d.r = r at *
  have R := hid hr
  clear hr
  have B := hid (And.intro hr0 hr1)
  have wq : IntKind.u64.wrap ((r : Int) / 2) = (r : Int) / 2 := wu64 (by omega) (by omega)
  clear hr0 hr1
  go_enter Tryd.func143, Tryd.ntmps143
  go_wp2_with fail
  refine (dec_narrow_at b g c (r / 2) _ (by omega) d _ D.out.1 D.out.2 (by have := B.out; omega) (by rw [R.out]; have := B.out; omega)).mono ?_
  rintro e w' ⟨rfl, hp⟩
  have P := hid hp
  clear hp
  go_wp2
  go_ret
  exact ⟨rfl, P.out⟩

set_option maxHeartbeats 400000 in
theorem dec_code_no (b g c : Nat) (p : Int) (d : Dec) (w : World) (_hd : DecAt w b g c d) (h : p < 1 ∨ 2047 < p) :
    Calls Tryd.prog 142 #[.pointer (some ⟨b, 0, none⟩), .int .i64 p] w fun e w' => e = .returned (.tuple #[.bool false, .iface 35 (.int .i64 3)]) ∧ w = w' := by
  go_enter Tryd.func142, Tryd.ntmps142
  go_wp2_with (go_at_call 135; refine (chance_no p _ h).mono ?_; rintro e w' ⟨rfl, rfl⟩)
  go_ret2
  exact ⟨rfl, rfl⟩

set_option maxHeartbeats 400000 in
theorem dec_code (b g c p : Nat) (d : Dec) (w : World) (hd : DecAt w b g c d) (ho : d.Ok 1000000000) (h1 : 1 ≤ p) (h2 : p ≤ 2047) :
    Calls Tryd.prog 142 #[.pointer (some ⟨b, 0, none⟩), .int .i64 p] w fun e w' => e = .returned (.tuple #[.bool (d.bit (d.r / 2048 * p)), .nilIface]) ∧ DecPart w b g c (d.narrow (d.r / 2048 * p)) w' := by
  have h3 := hd.blk.cell 3
  simp [decCells] at h3
  have D := hid (And.intro hd ho)
  have hr0 := ho.r0
  have hr1 := ho.r1
  clear hd ho
  generalize hr : d.r = r at *
  have R := hid hr
  clear hr
  have B := hid (And.intro hr0 hr1)
  have wq : IntKind.u64.wrap ((r : Int) / 2048) = (r : Int) / 2048 := wu64 (by omega) (by omega)
  clear hr0 hr1
  have hm : 1 ≤ r / 2048 * p ∧ r / 2048 * p < r := by
    have := B.out
    have hq : 8192 ≤ r / 2048 := by omega
    constructor
    · exact Nat.mul_pos (by omega) h1
    · have : r / 2048 * p ≤ r / 2048 * 2047 := Nat.mul_le_mul_left _ h2
      omega
  have M := hid hm
  clear hm
  have w1 : IntKind.u64.wrap (p : Int) = (p : Int) := wu64 (by omega) (by omega)
  have w2 : IntKind.u64.wrap ((r : Int) / 2048 * (p : Int)) = ((r / 2048 * p : Nat) : Int) := by
    have e : ((r : Int) / 2048 * (p : Int)) = ((r / 2048 * p : Nat) : Int) := by simp
    rw [e]
    have := M.out
    have := B.out
    exact wu64 (by omega) (by omega)
  go_enter Tryd.func142, Tryd.ntmps142
  go_wp2_with (go_at_call 135; refine (chance_yes p _ (by omega) (by omega)).mono ?_; rintro e w' ⟨rfl, rfl⟩)
  refine (dec_narrow_at b g c (r / 2048 * p) _ (by simp) d _ D.out.1 D.out.2 M.out.1 (by rw [R.out]; exact M.out.2)).mono ?_
  rintro e w' ⟨rfl, hp⟩
  have P := hid hp
  clear hp
  go_wp2
  go_ret2
  exact ⟨rfl, P.out⟩

set_option maxHeartbeats 400000 in
theorem dec_over (b g c : Nat) (d : Dec) (w : World) (hd : DecAt w b g c d) (hat : d.at_ ≤ 1000000000) :
    Calls Tryd.prog 73 #[.pointer (some ⟨b, 0, none⟩)] w fun e w' => e = .returned (.int .i64 (d.at_ - d.bs.length : Nat)) ∧ ∃ m, w' = w.drewN m := by
  have h0 := hd.blk.cell 0
  have h1 := hd.blk.cell 1
  simp [decCells] at h0 h1
  have hl := hd.len
  clear hd
  generalize d.bs.length = n at *
  generalize d.at_ = k at *
  go_enter Tryd.func73, Tryd.ntmps73
  go_wp2
  go_quiet (fail)
  go_wp2
  go_ret
  refine ⟨?_, _, rfl⟩
  show Ending.returned (.int .i64 _) = _
  congr 2
  omega
end Go.Proofs.YtnlfnknkiggejaaDoor
