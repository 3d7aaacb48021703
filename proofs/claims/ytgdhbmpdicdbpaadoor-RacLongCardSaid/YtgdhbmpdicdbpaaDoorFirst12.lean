/- The chapter's examples: kinlaw12's first. -/
import Derived.Test.YtgdhbmpdicdbpaaDoorObj
import Derived.Test.YtgdhbmpdicdbpaaDoorErrSame
import Derived.Test.YtgdhbmpdicdbpaaDoorBytesEq
namespace Go.Proofs.YtgdhbmpdicdbpaaDoor
open Go.RowKit

def fe1 : Enc := Enc.new.narrow (Enc.new.r / 2048 * 1024) false
def fe2 : Enc := fe1.narrow (fe1.r / 2048 * 1024) true
theorem fe2_bytes : fe2.bytes = [63, 255, 252] := by decide +kernel
theorem fe2_len : fe2.out.length = 0 := by decide +kernel
theorem fe1_ok : fe1.Ok 1000000000 := ⟨by decide +kernel, by decide +kernel, by decide +kernel, by decide +kernel⟩
theorem fe2_ok : fe2.Ok 1000000000 := ⟨by decide +kernel, by decide +kernel, by decide +kernel, by decide +kernel⟩
theorem fd_bit : (Dec.new []).bit ((Dec.new []).r / 2) = false := by decide +kernel
def fd1 : Dec := (Dec.new []).narrow ((Dec.new []).r / 2)
theorem fd_over : fd1.at_ - fd1.bs.length = 4 := by decide +kernel
theorem fd_at : fd1.at_ ≤ 1000000000 := by decide +kernel
theorem Enc.Ok.up {e : Enc} {n m : Nat} (h : e.Ok n) (hn : n ≤ m) : e.Ok m := ⟨h.r0, h.r1, h.low, Nat.le_trans h.len hn⟩
theorem Dec.Ok.up {e : Dec} {n m : Nat} (h : e.Ok n) (hn : n ≤ m) : e.Ok m := ⟨h.r0, h.r1, h.off, Nat.le_trans h.at_ hn⟩
theorem only_drewO (w : World) (m : Nat) : Only (fun _ => False) w (w.drewN m) := (Only.refl _ _).drewN m

set_option maxRecDepth 100000 in
set_option maxHeartbeats 4000000 in
theorem first_any (w : World) (hg : ErrT w) : Calls Tryd.prog 9 #[] w fun e w' => e = .returned (.bool true) ∧ Below w.heap.size w w' := by
  have HG := hid (And.intro hg hg.lt)
  clear hg
  go_enter Tryd.func9, Tryd.ntmps9
  go_wp2_with fail
  refine (new_enc_o _).mono ?_
  rintro e w1 ⟨eb, F, rfl, a1, f1, b1⟩
  have A1 := hid (And.intro a1 (And.intro f1 b1))
  clear a1 f1 b1
  go_wp2_with fail
  refine (new_dec_o _ [] _ ⟨none, 0, rfl, rfl, fun h => absurd rfl h⟩ (by simp)).mono ?_
  rintro e w2 ⟨db, G, rfl, a2, f2, b2⟩
  have T := hid (PairAt.mk2 (B := w.heap.size) (w0 := w) (enc_obj eb) A1.out.1 A1.out.2.1 A1.out.2.2 A1.out.2.2.size a2 f2 b2)
  clear a2 f2 b2
  go_wp2_with fail
  refine (enc_code_o eb 1024 false Enc.new F _ (by exact T.out.l) (enc_new_ok.up (by omega)) (by omega) (by omega)).mono ?_
  rintro e w3 ⟨rfl, h3⟩
  obtain ⟨F3, G3, hT3⟩ := T.out.left (dec_obj db) h3
  have T3 := hid hT3
  clear h3 hT3
  go_wp2_with fail
  refine (enc_code_o eb 1024 true fe1 F3 _ (by exact T3.out.l) fe1_ok (by omega) (by omega)).mono ?_
  rintro e w4 ⟨rfl, h3⟩
  obtain ⟨F4, G4, hT3⟩ := T3.out.left (dec_obj db) h3
  have T4 := hid hT3
  clear h3 hT3
  go_wp2_with fail
  refine (enc_code_no eb 2048 true _ (by omega)).mono ?_
  rintro e w5 ⟨rfl, rfl⟩
  go_wp2_with fail
  refine (fail_any _ _).mono ?_
  rintro e w5 ⟨rfl, hb5⟩
  have T5 := hid (T4.out.below (enc_obj eb) (dec_obj db) hb5)
  clear hb5
  go_wp2_with fail
  refine (err_same 3 _ (HG.out.1.below T5.out.bel HG.out.2)).mono ?_
  rintro e w6 ⟨rfl, hb6⟩
  have T6 := hid (T5.out.below (enc_obj eb) (dec_obj db) hb6)
  clear hb6
  go_wp2_with fail
  refine (enc_end_o eb fe2 F4 _ (by exact T6.out.l) fe2_ok).mono ?_
  rintro e w7 ⟨g, cap, rfl, h7, b7⟩
  have T7 := hid (T6.out.below (enc_obj eb) (dec_obj db) b7)
  have hcv := conv_from (From.of_own h7)
  clear h7 b7
  rw [fe2_bytes] at hcv ⊢
  have hcv' : (convert 42 9 (.slice (some ⟨g, 0, none⟩) 3 cap)).run Tryd.prog w7 = .ok (.string ⟨#[63, 255, 252]⟩) w7 := hcv
  clear hcv
  go_wp2_with fail
  refine (enc_len eb fe2 F4 _ (by exact T7.out.l) fe2_ok).mono ?_
  rintro e w8 ⟨rfl, m8, rfl⟩
  rw [fe2_len]
  have T8 := hid (T7.out.read (enc_obj eb) (dec_obj db) (only_drewO _ m8))
  go_wp2_with fail
  refine (dec_flat_o db (Dec.new []) G4 _ (by exact T8.out.r) ((dec_new_ok []).up (by omega))).mono ?_
  rintro e w9 ⟨rfl, h9⟩
  obtain ⟨F9, G9, hT9⟩ := T8.out.right (enc_obj eb) h9
  have T9 := hid hT9
  clear h9 hT9
  rw [fd_bit]
  go_wp2_with fail
  refine (dec_over_o db fd1 G9 _ (by exact T9.out.r) fd_at).mono ?_
  rintro e w10 ⟨rfl, m10, rfl⟩
  rw [fd_over]
  have T10 := hid (T9.out.read (enc_obj eb) (dec_obj db) (only_drewO _ m10))
  go_wp2_with fail
  go_ret
  exact ⟨rfl, T10.out.bel⟩
end Go.Proofs.YtgdhbmpdicdbpaaDoor
