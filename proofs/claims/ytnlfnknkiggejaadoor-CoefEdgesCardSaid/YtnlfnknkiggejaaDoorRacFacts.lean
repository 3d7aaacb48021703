/- Plain laws: the range coder's bounds are kept. -/
import Derived.Test.YtnlfnknkiggejaaDoorModSpec
namespace Go.Proofs.YtnlfnknkiggejaaDoor

def lowQ : Nat → Nat
  | 0 => 16777216
  | 1 => 65536
  | 2 => 256
  | _ => 1
theorem lowQ_next {k r : Nat} (h : lowQ (k + 1) ≤ r) : lowQ k ≤ r * 256 := by
  match k, h with
  | 0, h => simp only [lowQ] at *; omega
  | 1, h => simp only [lowQ] at *; omega
  | 2, h => simp only [lowQ] at *; omega
  | k + 3, h => simp only [lowQ] at *; omega

theorem Dec.norm_ok (k : Nat) : ∀ (d : Dec) (lim : Nat), lowQ k ≤ d.r → d.r ≤ 4294967295 → d.off ≤ d.r → d.at_ ≤ lim → (Dec.norm k d).Ok (lim + k) ∧ (Dec.norm k d).bs = d.bs := by
  induction k with
  | zero => intro d lim h1 h2 h3 h4; exact ⟨⟨h1, h2, h3, h4⟩, rfl⟩
  | succ k ih =>
    intro d lim h1 h2 h3 h4
    rw [Dec.norm]
    split
    · rename_i hlt
      have := ih d.step (lim + 1) (lowQ_next h1) (by show d.r * 256 ≤ _; omega) (by show min _ (d.r * 256) ≤ d.r * 256; omega) (by show d.at_ + 1 ≤ _; omega)
      rw [show lim + (k + 1) = lim + 1 + k by omega]
      exact this
    · exact ⟨⟨by omega, h2, h3, by omega⟩, rfl⟩
theorem Dec.narrow_ok {d : Dec} {lim v : Nat} (h : d.Ok lim) (h1 : 1 ≤ v) (h2 : v < d.r) : (d.narrow v).Ok (lim + 3) ∧ (d.narrow v).bs = d.bs := by
  obtain ⟨r0, r1, ho, ha⟩ := h
  unfold Dec.narrow
  have hb : (d.part v).bs = d.bs := by unfold Dec.part; split <;> rfl
  rw [← hb]
  refine Dec.norm_ok 3 _ lim ?_ ?_ ?_ ?_ <;> unfold Dec.part <;> split <;> simp only [lowQ] <;> omega
theorem Dec.rnorm_ok (k : Nat) : ∀ (d : Dec) (lim : Nat), lowQ k ≤ d.r → d.r ≤ 4294967295 → d.off ≤ 1099511627776 → d.at_ ≤ lim → (Dec.rnorm k d).ROk (lim + k) ∧ (Dec.rnorm k d).bs = d.bs := by
  induction k with
  | zero => intro d lim h1 h2 h3 h4; exact ⟨⟨h1, h2, h3, h4⟩, rfl⟩
  | succ k ih =>
    intro d lim h1 h2 h3 h4
    rw [Dec.rnorm]
    split
    · rename_i hlt
      have := ih d.rstep (lim + 1) (lowQ_next h1) (by show d.r * 256 ≤ _; omega) (by show min _ 1099511627776 ≤ _; omega) (by show d.at_ + 1 ≤ _; omega)
      rw [show lim + (k + 1) = lim + 1 + k by omega]
      exact this
    · exact ⟨⟨by omega, h2, h3, by omega⟩, rfl⟩
theorem Dec.rnarrow_ok {d : Dec} {lim v : Nat} (h : d.ROk lim) (h1 : 1 ≤ v) (h2 : v < d.r) : (d.rnarrow v).ROk (lim + 3) ∧ (d.rnarrow v).bs = d.bs := by
  obtain ⟨r0, r1, ho, ha⟩ := h
  unfold Dec.rnarrow
  have hb : (d.part v).bs = d.bs := by unfold Dec.part; split <;> rfl
  rw [← hb]
  refine Dec.rnorm_ok 3 _ lim ?_ ?_ ?_ ?_ <;> unfold Dec.part <;> split <;> simp only [lowQ] <;> omega

theorem carryRev_len (l : List UInt8) : (carryRev l).length = l.length := by
  induction l with
  | nil => rfl
  | cons x l ih => simp only [carryRev]; split <;> simp [ih]
theorem carry_len (l : List UInt8) : (carry l).length = l.length := by unfold carry; rw [List.length_reverse, carryRev_len, List.length_reverse]
theorem addRev_len (l : List UInt8) (v : Nat) : (addRev l v).length = l.length := by
  induction l generalizing v with
  | nil => rfl
  | cons x l ih => simp only [addRev]; split <;> simp [ih]
theorem addL_len (l : List UInt8) (v : Nat) : (addL l v).length = l.length := by unfold addL; rw [List.length_reverse, addRev_len, List.length_reverse]

theorem Enc.norm_ok (k : Nat) : ∀ (e : Enc) (lim : Nat), lowQ k ≤ e.r → e.r ≤ 4294967295 → e.low ≤ 4294967295 → e.out.length ≤ lim → (Enc.norm k e).Ok (lim + k) := by
  induction k with
  | zero => intro e lim h1 h2 h3 h4; exact ⟨h1, h2, h3, h4⟩
  | succ k ih =>
    intro e lim h1 h2 h3 h4
    rw [Enc.norm]
    split
    · rename_i hlt
      have := ih e.step (lim + 1) (lowQ_next h1) (by show e.r * 256 ≤ _; omega) (by show e.low * 256 % 4294967296 ≤ _; omega) (by show (e.out ++ [_]).length ≤ _; simp; omega)
      rw [show lim + (k + 1) = lim + 1 + k by omega]
      exact this
    · exact ⟨by omega, h2, h3, by omega⟩
theorem Enc.narrow_ok {e : Enc} {lim v : Nat} (h : e.Ok lim) (h1 : 1 ≤ v) (h2 : v < e.r) (b : Bool) : (e.narrow v b).Ok (lim + 3) := by
  obtain ⟨r0, r1, ho, ha⟩ := h
  unfold Enc.narrow
  have hc := carry_len e.out
  refine Enc.norm_ok 3 _ lim ?_ ?_ ?_ ?_ <;> unfold Enc.part <;> cases b <;> simp only [lowQ, if_true, Bool.false_eq_true, if_false] <;> (try split) <;> (try simp only) <;> omega
theorem REnc.norm_ok (k : Nat) : ∀ (e : REnc) (lim : Nat), lowQ k ≤ e.R → e.R ≤ 4294967295 → e.L.length ≤ lim → (REnc.norm k e).Ok (lim + k) := by
  induction k with
  | zero => intro e lim h1 h2 h4; exact ⟨h1, h2, h4⟩
  | succ k ih =>
    intro e lim h1 h2 h4
    rw [REnc.norm]
    split
    · rename_i hlt
      have := ih e.step (lim + 1) (lowQ_next h1) (by show e.R * 256 ≤ _; omega) (by show (e.L ++ [_]).length ≤ _; simp; omega)
      rw [show lim + (k + 1) = lim + 1 + k by omega]
      exact this
    · exact ⟨by omega, h2, by omega⟩
theorem REnc.narrow_ok {e : REnc} {lim v : Nat} (h : e.Ok lim) (h1 : 1 ≤ v) (h2 : v < e.R) (b : Bool) : (e.narrow v b).Ok (lim + 3) := by
  obtain ⟨r0, r1, ha⟩ := h
  unfold REnc.narrow
  have hc := addL_len e.L v
  refine REnc.norm_ok 3 _ lim ?_ ?_ ?_ <;> unfold REnc.part <;> cases b <;> simp only [lowQ, if_true, Bool.false_eq_true, if_false] <;> omega

theorem share_ok {r p : Nat} (h0 : 16777216 ≤ r) (h1 : 1 ≤ p) (h2 : p ≤ 2047) : 1 ≤ r / 2048 * p ∧ r / 2048 * p < r := by
  have hq : 8192 ≤ r / 2048 := by omega
  constructor
  · exact Nat.mul_pos (by omega) h1
  · have : r / 2048 * p ≤ r / 2048 * 2047 := Nat.mul_le_mul_left _ h2
    omega
theorem half_ok {r : Nat} (h0 : 16777216 ≤ r) : 1 ≤ r / 2 ∧ r / 2 < r := by omega

theorem Mach.anyBit_nat {σ : Type} (M : Mach σ) (s : σ) (c : Nat) (b : Bool) (h : c < 64) : M.anyBit s (c : Int) b = M.bit s c b := by
  unfold Mach.anyBit
  rw [if_pos (by omega)]
  rfl
end Go.Proofs.YtnlfnknkiggejaaDoor
