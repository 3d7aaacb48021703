/- RacCodes: the plain law; its walk follows. -/
import Derived.Test.YtgdhbmpdicdbpaaDoorObjRef
import Derived.Test.YtgdhbmpdicdbpaaDoorRound
namespace Go.Proofs.YtgdhbmpdicdbpaaDoor
open Go.RowKit

theorem REnc.Ok.up {e : REnc} {n m : Nat} (h : e.Ok n) (hn : n ≤ m) : e.Ok m := ⟨h.r0, h.r1, Nat.le_trans h.len hn⟩
/-- Two encoders go alike, and are as they must be behind j operations. -/
structure BothE (e : Enc) (x : REnc) (j : Nat) : Prop where
  sim : EncSim e x
  ok1 : e.Ok (3 * j)
  ok2 : x.Ok (4 + 3 * j)
theorem BothE.op {e : Enc} {x : REnc} {j : Nat} (h : BothE e x j) (p : Int) (u : Bool) : BothE (e.op p u) (x.op p u) (j + 1) := by
  obtain ⟨hs, h1, h2⟩ := h
  have hl := h1.low
  have hr1 := h1.r1
  have hr0 := h1.r0
  have hR := hs.R
  have hk : (x.op p u).Ok (4 + 3 * j + 3) := by
    unfold REnc.op
    split
    · exact REnc.narrow_ok h2 (by have := h2.r0; omega) (by have := h2.r0; omega) u
    · split
      · have := share_ok (p := p.toNat) h2.r0 (by omega) (by omega)
        exact REnc.narrow_ok h2 this.1 this.2 u
      · exact h2.up (by omega)
  refine ⟨?_, (Enc.op_ok h1 p u).up (by omega), hk.up (by omega)⟩
  unfold Enc.op REnc.op
  rw [hR]
  split
  · exact hs.narrow hl hr1 _ (by omega) u
  · split
    · have := share_ok (p := p.toNat) hr0 (by omega) (by omega)
      exact hs.narrow hl hr1 _ this.2 u
    · exact hs
theorem BothE.new : BothE Enc.new REnc.new 0 := ⟨⟨rfl, rfl⟩, enc_new_ok, ⟨by show 16777216 ≤ 4294967295; omega, by show 4294967295 ≤ 4294967295; omega, by show 4 ≤ 4; omega⟩⟩
theorem BothE.len {e : Enc} {x : REnc} {j : Nat} (h : BothE e x j) : x.L.length = e.out.length + 4 := by
  rw [h.sim.L, List.length_append, four_len]
theorem BothE.bytes {e : Enc} {x : REnc} {j : Nat} (h : BothE e x j) : x.bytes = e.bytes := by
  show trim x.L = trim _
  rw [h.sim.L]
theorem new_renc_o (w : World) : Calls Tryd.prog 11 #[] w (NewO REncO w REnc.new) := by
  refine (rnew_encoder w).mono ?_
  rintro e w' ⟨b, v, rfl, h1, h2, h3, h4⟩
  exact ⟨b, _, rfl, ⟨v, h1, rfl⟩, by rintro k (rfl | h); exact h2; exact h3 k h, h4⟩
end Go.Proofs.YtgdhbmpdicdbpaaDoor
