/- The document's encoder as an object; operations of both encoders go alike. -/
import Derived.Test.YtgdhbmpdicdbpaaDoorLawDec
namespace Go.Proofs.YtgdhbmpdicdbpaaDoor
open Go.RowKit

def REncO (b : Nat) (w : World) (F : Nat → Prop) (e : REnc) : Prop := ∃ v, REncAt w b v e ∧ F = Fp b v
theorem renc_obj (b : Nat) : IsObj (REncO b) where
  keep := by
    rintro w w' F S s ⟨v, h, rfl⟩ ho hd
    exact ⟨v, ⟨h.blk.keep ho (hd b (.inl rfl)), own_far_o h.own ho (fun k hk => hd k (.inr hk)), h.some_, h.len⟩, rfl⟩
  there := by
    rintro w F s k ⟨v, h, rfl⟩ (rfl | hk)
    · exact h.blk.lt
    · exact (h.own.lt k hk).2
theorem renc_moved {b : Nat} {v : Value} {e : REnc} {w w' : World} (h : RMoved w b v e w') : MovedO (REncO b) w (Fp b v) e w' := by
  obtain ⟨v', h1, h2, h3⟩ := h
  refine ⟨Fp b v', ⟨v', h1, rfl⟩, h2, ?_⟩
  rintro k (h | h)
  · exact .inl (.inl h)
  · rcases h3 k h with h | h
    · exact .inl (.inr h)
    · exact .inr h
theorem renc_flat_o (b : Nat) (u : Bool) (e : REnc) (F : Nat → Prop) (w : World) (he : REncO b w F e) (ho : e.Ok 1000000004) :
    Calls Tryd.prog 13 #[.pointer (some ⟨b, 0, none⟩), .bool u] w fun y w' => y = .returned (.tuple #[]) ∧ MovedO (REncO b) w F (e.narrow (e.R / 2) u) w' := by
  obtain ⟨v, h, rfl⟩ := he
  refine (renc_flat b v u e w h ho).mono ?_
  rintro y w' ⟨rfl, hm⟩
  exact ⟨rfl, renc_moved hm⟩
theorem renc_code_o (b p : Nat) (u : Bool) (e : REnc) (F : Nat → Prop) (w : World) (he : REncO b w F e) (ho : e.Ok 1000000004) (h1 : 1 ≤ p) (h2 : p ≤ 2047) :
    Calls Tryd.prog 16 #[.pointer (some ⟨b, 0, none⟩), .int .i64 p, .bool u] w fun y w' => y = .returned (.agg #[.int .i64 0, .slice none 0 0]) ∧ MovedO (REncO b) w F (e.narrow (e.R / 2048 * p) u) w' := by
  obtain ⟨v, h, rfl⟩ := he
  refine (renc_code b p v u e w h ho h1 h2).mono ?_
  rintro y w' ⟨rfl, hm⟩
  exact ⟨rfl, renc_moved hm⟩
theorem renc_end_o (b : Nat) (e : REnc) (F : Nat → Prop) (w : World) (he : REncO b w F e) :
    Calls Tryd.prog 21 #[.pointer (some ⟨b, 0, none⟩)] w fun y w' => ∃ g cap, y = .returned (.slice (some ⟨g, 0, none⟩) e.bytes.length cap) ∧ w'.ownsRow w.heap.size 5 1 (.slice (some ⟨g, 0, none⟩) e.bytes.length cap) e.bytes.length (e.bytes.map byteV) ∧ Below w.heap.size w w' := by
  obtain ⟨v, h, rfl⟩ := he
  exact renc_end b v e w h
theorem renc_len (b : Nat) (e : REnc) (F : Nat → Prop) (w : World) (he : REncO b w F e) :
    Calls Tryd.prog 18 #[.pointer (some ⟨b, 0, none⟩)] w fun y w' => y = .returned (.int .i64 e.L.length) ∧ ∃ m, w' = w.drewN m := by
  obtain ⟨v, h, rfl⟩ := he
  have h0 := h.blk.cell 0
  simp [rencCells] at h0
  obtain ⟨g, cap, rfl, _, _⟩ := renc_form h
  clear h
  go_enter Tryd.func18, Tryd.ntmps18
  go_wp2
  go_ret
  exact ⟨rfl, 0, rfl⟩
def REnc.op (e : REnc) (p : Int) (u : Bool) : REnc := if p = 0 then e.narrow (e.R / 2) u else if 1 ≤ p ∧ p ≤ 2047 then e.narrow (e.R / 2048 * p.toNat) u else e
end Go.Proofs.YtgdhbmpdicdbpaaDoor
