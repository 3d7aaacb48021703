/- Make, the program's and the document's, in one contract each. -/
import Derived.Test.YtabklmkdneoaaaaDoorULawNexts
namespace Go.Proofs.YtabklmkdneoaaaaDoor
open Go.RowKit

/-- The bytes of a unit; none where none is made. -/
def mkU (k : Int) (bs : List UInt8) : List UInt8 := if makeNo k bs.length = 0 then unitBytes k.toNat bs else []
theorem mkU_no {k : Int} {bs : List UInt8} (h : makeNo k bs.length ≠ 0) : mkU k bs = [] := if_neg h
theorem makeNo_zero {k : Int} {n : Nat} (h : makeNo k n = 0) : 0 ≤ k ∧ k ≤ 255 ∧ (k = 0 → n = 0) ∧ n ≤ 65536 := by
  unfold makeNo at h
  split at h
  · cases h
  · rename_i h1
    split at h
    · cases h
    · omega
theorem unitBytes_len (k : Nat) (bs : List UInt8) (h : 1 ≤ k) : (unitBytes k bs).length = bs.length + 8 := by
  unfold unitBytes
  rw [if_neg (by omega)]
  simp [unitHd, three, quad]
theorem mkU_len (k : Int) (bs : List UInt8) : (mkU k bs).length ≤ bs.length + 8 := by
  unfold mkU
  split
  · by_cases h0 : k.toNat = 0
    · rw [h0]; show ([0] : List UInt8).length ≤ _; simp
    · rw [unitBytes_len _ _ (by omega)]; omega
  · simp
def MakeRes (k : Int) (bs : List UInt8) (w : World) (e : Ending) (w' : World) : Prop :=
  ∃ bv, e = .returned (.tuple #[bv, codeV (makeNo k bs.length)]) ∧ w'.ownsRow w.heap.size 5 1 bv (mkU k bs).length ((mkU k bs).map byteV) ∧ Below w.heap.size w w'
def RMakeRes (k : Int) (bs : List UInt8) (w : World) (e : Ending) (w' : World) : Prop :=
  ∃ bv, e = .returned (.tuple #[bv, .agg #[.int .i64 (makeNo k bs.length), .slice none 0 0]]) ∧ w'.ownsRow w.heap.size 5 1 bv (mkU k bs).length ((mkU k bs).map byteV) ∧ Below w.heap.size w w'
theorem make_any (k : Int) (x : Value) (bs : List UInt8) (w : World) (hx : Byt w x bs) :
    Calls Tryd.prog 22 #[.int .i64 k, x] w (MakeRes k bs w) := by
  by_cases hn : makeNo k bs.length = 0
  · obtain ⟨h0, h1, h2, h3⟩ := makeNo_zero hn
    have hm : mkU k bs = unitBytes k.toNat bs := if_pos hn
    have hc : codeV (makeNo k bs.length) = .nilIface := by rw [hn]; rfl
    by_cases hk : k = 0
    · subst hk
      obtain rfl := List.eq_nil_of_length_eq_zero (h2 rfl)
      refine (made_fill x w hx).mono ?_
      rintro e w' ⟨g, cap, rfl, ho, hb⟩
      exact ⟨_, by rw [hc], by rw [hm]; exact ho, hb⟩
    · obtain ⟨m, rfl⟩ := Int.eq_ofNat_of_zero_le h0
      refine (made_unit m x bs w hx (by omega) (by omega) h3).mono ?_
      rintro e w' ⟨g, cap, rfl, ho, hb⟩
      exact ⟨_, by rw [hc], by rw [hm]; exact ho, hb⟩
  · refine (make_no k x bs w hx hn).mono ?_
    rintro e w' ⟨rfl, rfl⟩
    refine ⟨.slice none 0 0, ?_, ?_, Below.refl _ _⟩
    · unfold codeV
      rw [if_neg hn]
    · rw [mkU_no hn]
      exact World.ownsRow_nil _ _ _ _
theorem rmake_any (k : Int) (x : Value) (bs : List UInt8) (w : World) (hx : Byt w x bs) :
    Calls Tryd.prog 32 #[.int .i64 k, x] w (RMakeRes k bs w) := by
  by_cases hn : makeNo k bs.length = 0
  · obtain ⟨h0, h1, h2, h3⟩ := makeNo_zero hn
    have hm : mkU k bs = unitBytes k.toNat bs := if_pos hn
    by_cases hk : k = 0
    · subst hk
      obtain rfl := List.eq_nil_of_length_eq_zero (h2 rfl)
      refine (rmade_fill x w hx).mono ?_
      rintro e w' ⟨g, cap, rfl, ho, hb⟩
      exact ⟨_, by rw [hn], by rw [hm]; exact ho, hb⟩
    · obtain ⟨m, rfl⟩ := Int.eq_ofNat_of_zero_le h0
      refine (rmade_unit m x bs w hx (by omega) (by omega) h3).mono ?_
      rintro e w' ⟨g, cap, rfl, ho, hb⟩
      exact ⟨_, by rw [hn], by rw [hm]; exact ho, hb⟩
  · refine (rmake_no k x bs w hx hn).mono ?_
    rintro e w' ⟨rfl, hb⟩
    exact ⟨.slice none 0 0, rfl, by rw [mkU_no hn]; exact World.ownsRow_nil _ _ _ _, hb⟩
end Go.Proofs.YtabklmkdneoaaaaDoor
