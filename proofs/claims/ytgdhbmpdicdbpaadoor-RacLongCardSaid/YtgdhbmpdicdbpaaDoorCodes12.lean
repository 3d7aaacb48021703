/- kinlaw12's codes; bits that are all of the lower part. -/
import Derived.Test.YtgdhbmpdicdbpaaDoorFirst12
import Derived.Deep.RegionHeld3
namespace Go.Proofs.YtgdhbmpdicdbpaaDoor
open Go.RowKit

theorem MovedO.after {σ : Type} {At : World → (Nat → Prop) → σ → Prop} {w wa w' : World} {F : Nat → Prop} {s : σ} (ho : Only (fun _ => False) w wa) (h : MovedO At wa F s w') : MovedO At w F s w' := by
  obtain ⟨F', h1, h2, h3⟩ := h
  have hs := ho.size
  refine ⟨F', h1, ⟨h2.os.trans ho.os, h2.tape.trans ho.tape, h2.output.trans ho.output, Nat.le_trans ho.size h2.size, fun k hk hn => (h2.block k (by omega) hn).trans (ho.block k hk (fun h => h))⟩, fun k hk => ?_⟩
  rcases h3 k hk with h | h
  · exact .inl h
  · exact .inr (by omega)
theorem MovedO.same {σ : Type} {At : World → (Nat → Prop) → σ → Prop} {w : World} {F : Nat → Prop} {s : σ} (h : At w F s) : MovedO At w F s w := ⟨F, h, Only.refl _ _, fun _ h => .inl h⟩
/-- An operation of an encoder: P 0: flat; within 1 to 2047: coded; else refused. -/
def Enc.op (e : Enc) (p : Int) (u : Bool) : Enc := if p = 0 then e.narrow (e.r / 2) u else if 1 ≤ p ∧ p ≤ 2047 then e.narrow (e.r / 2048 * p.toNat) u else e
def okP (p : Int) : Bool := decide (0 ≤ p ∧ p ≤ 2047)
theorem Enc.op_ok {e : Enc} {n : Nat} (h : e.Ok n) (p : Int) (u : Bool) : (e.op p u).Ok (n + 3) := by
  unfold Enc.op
  split
  · exact Enc.narrow_ok h (by have := h.r0; omega) (by have := h.r0; omega) u
  · split
    · have := share_ok (p := p.toNat) h.r0 (by omega) (by omega)
      exact Enc.narrow_ok h this.1 this.2 u
    · exact h.up (by omega)
def Dec.op (d : Dec) (p : Int) : Bool × Dec := if p = 0 then (d.bit (d.r / 2), d.narrow (d.r / 2)) else if 1 ≤ p ∧ p ≤ 2047 then (d.bit (d.r / 2048 * p.toNat), d.narrow (d.r / 2048 * p.toNat)) else (false, d)
theorem Dec.op_ok {d : Dec} {n : Nat} (h : d.Ok n) (p : Int) : (d.op p).2.Ok (n + 3) := by
  unfold Dec.op
  split
  · exact (Dec.narrow_ok h (by have := h.r0; omega) (by have := h.r0; omega)).1
  · split
    · have := share_ok (p := p.toNat) h.r0 (by omega) (by omega)
      exact (Dec.narrow_ok h this.1 this.2).1
    · exact h.up (by omega)
set_option maxHeartbeats 400000 in
theorem codes_any (b : Nat) (p : Int) (u : Bool) (e : Enc) (F : Nat → Prop) (w : World) (he : EncO b w F e) (ho : e.Ok 1000000000) :
    Calls Tryd.prog 32 #[.pointer (some ⟨b, 0, none⟩), .agg #[.int .i64 p, .bool u]] w fun y w' => y = .returned (.bool (okP p)) ∧ MovedO (EncO b) w F (e.op p u) w' := by
  have hk : EncO b (w.alloc (.cells #[.int .i64 p, .bool u] 29)) F e := (enc_obj b).keep _ _ F (fun _ => False) e he ((Only.refl _ w).alloc _) (fun _ _ h => h)
  have fin : ∀ s w', MovedO (EncO b) (w.alloc (.cells #[.int .i64 p, .bool u] 29)) F s w' → MovedO (EncO b) w F s w' := fun s w' h => h.after ((Only.refl _ w).alloc _)
  have S := hid (And.intro hk (And.intro ho fin))
  clear he ho hk fin
  unfold Enc.op okP
  by_cases h0 : p = 0
  · subst h0
    go_enter Tryd.func32, Tryd.ntmps32
    go_wp2_with fail
    refine (enc_flat_o b u e F _ S.out.1 S.out.2.1).mono ?_
    rintro y w' ⟨rfl, hm⟩
    have M := hid (S.out.2.2 _ _ hm)
    clear hm
    go_wp2_with fail
    go_ret
    exact ⟨rfl, M.out⟩
  · have hz : (p == 0) = false := by simpa using h0
    by_cases h1 : 1 ≤ p ∧ p ≤ 2047
    · rw [if_neg h0, if_pos h1, decide_eq_true (show 0 ≤ p ∧ p ≤ 2047 by omega)]
      obtain ⟨m, rfl⟩ := Int.eq_ofNat_of_zero_le (show 0 ≤ p by omega)
      have hm : 1 ≤ m ∧ m ≤ 2047 := by omega
      have MM := hid hm
      clear h1 h0 hm
      simp only [Int.toNat_natCast]
      go_enter Tryd.func32, Tryd.ntmps32
      go_wp2_with fail
      refine (enc_code_o b m u e F _ S.out.1 S.out.2.1 MM.out.1 MM.out.2).mono ?_
      rintro y w' ⟨rfl, hm⟩
      have M := hid (S.out.2.2 _ _ hm)
      clear hm
      go_wp2_with fail
      go_ret
      exact ⟨rfl, M.out⟩
    · rw [if_neg h0, if_neg h1, decide_eq_false (show ¬(0 ≤ p ∧ p ≤ 2047) by omega)]
      have hx := hid (show p < 1 ∨ 2047 < p by omega)
      clear h0 h1
      go_enter Tryd.func32, Tryd.ntmps32
      go_wp2_with fail
      refine (enc_code_no b p u _ hx.out).mono ?_
      rintro y w' ⟨rfl, rfl⟩
      go_wp2_with fail
      go_ret
      exact ⟨rfl, S.out.2.2 _ _ (MovedO.same S.out.1)⟩

/-! ### Noughts alone -/
structure Zero (e : Enc) (d : Dec) : Prop where
  low : e.low = 0
  out : e.out = List.replicate e.out.length 0
  bs : d.bs = []
  off : d.off = 0
  r : d.r = e.r
  at_ : d.at_ = e.out.length + 4
theorem Zero.new : Zero Enc.new (Dec.new []) := ⟨rfl, rfl, rfl, by decide +kernel, rfl, rfl⟩
theorem Zero.norm (k : Nat) : ∀ {e : Enc} {d : Dec}, Zero e d → Zero (Enc.norm k e) (Dec.norm k d) := by
  induction k with
  | zero => intro e d h; exact h
  | succ k ih =>
    intro e d h
    obtain ⟨h1, h2, h3, h4, h5, h6⟩ := h
    rw [Enc.norm, Dec.norm, h5]
    split
    · refine ih ⟨?_, ?_, h3, ?_, ?_, ?_⟩
      · show e.low * 256 % 4294967296 = 0
        rw [h1]
      · show e.out ++ [UInt8.ofNat (e.low / 16777216)] = List.replicate (e.out ++ [_]).length 0
        rw [h1, List.length_append, ← List.replicate_append_replicate, ← h2]
        rfl
      · show min (d.off * 256 + byteAt d.bs d.at_) (d.r * 256) = 0
        rw [h4, h3, byteAt_past [] d.at_ (Nat.zero_le _)]
        simp
      · show d.r * 256 = e.r * 256
        rw [h5]
      · show d.at_ + 1 = (e.out ++ [_]).length + 4
        rw [List.length_append, h6]
        rfl
    · exact ⟨h1, h2, h3, h4, h5, h6⟩
theorem Zero.narrow {e : Enc} {d : Dec} (h : Zero e d) (v : Nat) (hv : 1 ≤ v) : d.bit v = false ∧ Zero (e.narrow v false) (d.narrow v) := by
  have hb : ¬ v ≤ d.off := by rw [h.off]; omega
  refine ⟨decide_eq_false hb, Zero.norm 3 ?_⟩
  unfold Dec.part Enc.part
  rw [if_neg hb]
  exact ⟨h.low, h.out, h.bs, h.off, rfl, h.at_⟩
theorem Zero.op {e : Enc} {d : Dec} (h : Zero e d) {n : Nat} (ho : e.Ok n) (p : Int) : (d.op p).1 = false ∧ Zero (e.op p false) (d.op p).2 := by
  unfold Dec.op Enc.op
  rw [h.r]
  split
  · exact h.narrow _ (by have := ho.r0; omega)
  · split
    · have := share_ok (p := p.toNat) ho.r0 (by omega) (by omega)
      exact h.narrow _ this.1
    · exact ⟨rfl, h⟩
theorem Zero.bytes {e : Enc} {d : Dec} (h : Zero e d) : e.bytes = [] := by
  have hz : e.out ++ four e.low = List.replicate (e.out.length + 4) 0 := by
    rw [h.low, ← List.replicate_append_replicate, ← h.out]
    rfl
  unfold Enc.bytes trim
  rw [hz, List.reverse_replicate]
  have ht : ∀ m, trimRev (List.replicate m 0) = [] := by
    intro m
    induction m with
    | zero => rfl
    | succ m ih => rw [List.replicate_succ, trimRev, if_pos rfl, ih]
  rw [ht]
  rfl
end Go.Proofs.YtgdhbmpdicdbpaaDoor
