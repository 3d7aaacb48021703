/- Plain laws: what was coded comes back. -/
import Derived.Test.YtnlfnknkiggejaaDoorRacEq
namespace Go.Proofs.YtnlfnknkiggejaaDoor

/-! ### An encoder as an interval -/
def Enc.V (e : Enc) : Nat := val (e.out ++ four e.low)
def Enc.n (e : Enc) : Nat := e.out.length + 4
/-- The interval lies within what the bytes can say. -/
structure Enc.Fit (e : Enc) : Prop where
  low : e.low ≤ 4294967295
  top : e.V + e.r ≤ 256 ^ e.n
theorem Enc.V_eq (e : Enc) (h : e.low ≤ 4294967295) : e.V = val e.out * 4294967296 + e.low := by
  unfold Enc.V
  rw [val_append, val_four _ h, four_len]
/-- What comes after lies within. -/
structure Inside (e f : Enc) : Prop where
  n : e.n ≤ f.n
  lo : e.V * 256 ^ (f.n - e.n) ≤ f.V
  hi : f.V + f.r ≤ (e.V + e.r) * 256 ^ (f.n - e.n)
theorem Inside.refl (e : Enc) : Inside e e := ⟨Nat.le_refl _, by simp, by simp⟩
theorem Inside.trans {e f g : Enc} (h : Inside e f) (k : Inside f g) : Inside e g := by
  have hp : 256 ^ (g.n - e.n) = 256 ^ (f.n - e.n) * 256 ^ (g.n - f.n) := by
    rw [← Nat.pow_add]
    congr 1
    have := h.n; have := k.n; omega
  refine ⟨Nat.le_trans h.n k.n, ?_, ?_⟩
  · rw [hp, ← Nat.mul_assoc]
    exact Nat.le_trans (Nat.mul_le_mul_right _ h.lo) k.lo
  · rw [hp, ← Nat.mul_assoc]
    exact Nat.le_trans k.hi (Nat.mul_le_mul_right _ h.hi)

theorem Enc.step_V (e : Enc) (h : e.low ≤ 4294967295) : e.step.V = e.V * 256 := by
  rw [Enc.V_eq e h, Enc.V_eq e.step (by show e.low * 256 % 4294967296 ≤ _; omega)]
  show val (e.out ++ [UInt8.ofNat (e.low / 16777216)]) * 4294967296 + e.low * 256 % 4294967296 = _
  rw [val_append, val_one]
  have : (UInt8.ofNat (e.low / 16777216)).toNat = e.low / 16777216 := by simp; omega
  rw [this]
  simp only [List.length_cons, List.length_nil]
  omega
theorem Enc.step_n (e : Enc) : e.step.n = e.n + 1 := by show (e.out ++ [_]).length + 4 = _; simp [Enc.n]
theorem Enc.step_fit {e : Enc} (h : e.Fit) : e.step.Fit := by
  refine ⟨by show e.low * 256 % 4294967296 ≤ _; omega, ?_⟩
  rw [Enc.step_V e h.low, Enc.step_n, Nat.pow_succ]
  show e.V * 256 + e.r * 256 ≤ _
  have := h.top
  omega
theorem Enc.step_inside {e : Enc} (h : e.Fit) : Inside e e.step := by
  have hn := Enc.step_n e
  have hk : e.step.n - e.n = 1 := by omega
  refine ⟨by omega, ?_, ?_⟩
  · rw [hk, Enc.step_V e h.low]; omega
  · rw [hk, Enc.step_V e h.low]
    show e.V * 256 + e.r * 256 ≤ _
    omega
theorem Enc.norm_fit (k : Nat) : ∀ (e : Enc), e.Fit → (Enc.norm k e).Fit ∧ Inside e (Enc.norm k e) := by
  induction k with
  | zero => intro e h; exact ⟨h, Inside.refl _⟩
  | succ k ih =>
    intro e h
    rw [Enc.norm]
    split
    · have := ih e.step (Enc.step_fit h)
      exact ⟨this.1, (Enc.step_inside h).trans this.2⟩
    · exact ⟨h, Inside.refl _⟩
theorem Enc.part_n (e : Enc) (v : Nat) (b : Bool) : (e.part v b).n = e.n := by
  unfold Enc.part Enc.n
  cases b <;> simp
  split <;> simp [carry_len]
theorem Enc.part_r (e : Enc) (v : Nat) (b : Bool) : (e.part v b).r = if b then e.r - v else v := by
  unfold Enc.part
  cases b <;> simp
  split <;> rfl
theorem Enc.part_V {e : Enc} (h : e.Fit) (v : Nat) (hv : v < e.r) (hr : e.r ≤ 4294967295) (b : Bool) : (e.part v b).V = (if b then e.V + v else e.V) ∧ (e.part v b).low ≤ 4294967295 := by
  cases b with
  | false => exact ⟨rfl, h.low⟩
  | true =>
    have hl := h.low
    have ht := h.top
    rw [Enc.V_eq e hl] at ht
    have hpow : 256 ^ e.n = 256 ^ e.out.length * 4294967296 := by unfold Enc.n; rw [Nat.pow_add]
    rw [hpow] at ht
    unfold Enc.part
    rw [if_pos rfl]
    split
    · rename_i hc
      have hlow : e.low + v - 4294967296 ≤ 4294967295 := by omega
      refine ⟨?_, hlow⟩
      rw [Enc.V_eq ⟨carry e.out, e.low + v - 4294967296, e.r - v⟩ hlow, Enc.V_eq e hl]
      show val (carry e.out) * 4294967296 + (e.low + v - 4294967296) = _
      rw [val_carry, Nat.mod_eq_of_lt (by
        have : val e.out * 4294967296 + 4294967296 < 256 ^ e.out.length * 4294967296 + 1 := by omega
        rcases Nat.lt_or_ge (val e.out + 1) (256 ^ e.out.length) with h1 | h1
        · exact h1
        · exfalso
          have h2 := Nat.mul_le_mul_right 4294967296 h1
          omega)]
      simp only [if_true]
      omega
    · rename_i hc
      have hlow : e.low + v ≤ 4294967295 := by omega
      refine ⟨?_, hlow⟩
      rw [Enc.V_eq ⟨e.out, e.low + v, e.r - v⟩ hlow, Enc.V_eq e hl]
      simp only [if_true]
      omega
theorem Enc.part_fit {e : Enc} (h : e.Fit) (v : Nat) (hv : v < e.r) (hr : e.r ≤ 4294967295) (b : Bool) : (e.part v b).Fit ∧ Inside e (e.part v b) := by
  obtain ⟨hV, hl⟩ := Enc.part_V h v hv hr b
  have hn := Enc.part_n e v b
  have hR := Enc.part_r e v b
  have ht := h.top
  refine ⟨⟨hl, ?_⟩, ⟨by omega, ?_, ?_⟩⟩
  · rw [hV, hn, hR]; cases b <;> simp <;> omega
  · rw [hn, Nat.sub_self, hV]; cases b <;> simp
  · rw [hn, Nat.sub_self, hV, hR]; cases b <;> simp <;> omega
theorem Enc.narrow_fit {e : Enc} (h : e.Fit) (v : Nat) (hv : v < e.r) (hr : e.r ≤ 4294967295) (b : Bool) : (e.narrow v b).Fit ∧ Inside e (e.narrow v b) := by
  have h1 := Enc.part_fit h v hv hr b
  have h2 := Enc.norm_fit 3 _ h1.1
  exact ⟨h2.1, h1.2.trans h2.2⟩

/-! ### The bytes of the last state, read from the first on -/
theorem trim_zeros (l : List UInt8) : ∃ m, l = trim l ++ List.replicate m 0 := by
  have h : ∀ r : List UInt8, ∃ m, r = List.replicate m 0 ++ trimRev r := by
    intro r
    induction r with
    | nil => exact ⟨0, rfl⟩
    | cons x r ih =>
      obtain ⟨m, hm⟩ := ih
      simp only [trimRev]
      split
      · rename_i hx
        subst hx
        exact ⟨m + 1, by rw [List.replicate_succ, List.cons_append, ← hm]⟩
      · exact ⟨0, rfl⟩
  obtain ⟨m, hm⟩ := h l.reverse
  refine ⟨m, ?_⟩
  have := congrArg List.reverse hm
  rw [List.reverse_reverse, List.reverse_append, List.reverse_replicate] at this
  exact this
theorem byteAt_trim (l : List UInt8) (k : Nat) : byteAt (trim l) k = byteAt l k := by
  obtain ⟨m, hm⟩ := trim_zeros l
  conv => rhs; rw [hm]
  unfold byteAt
  rw [List.getD_eq_getElem?_getD, List.getD_eq_getElem?_getD, List.getElem?_append]
  split
  · rfl
  · rename_i h
    rw [List.getElem?_eq_none (by omega)]
    rw [List.getElem?_replicate]
    split <;> rfl
theorem pre_trim (l : List UInt8) (k : Nat) : pre (trim l) k = pre l k := by
  induction k with
  | zero => rfl
  | succ k ih => rw [pre, pre, ih, byteAt_trim]
theorem pre_take (l : List UInt8) (k : Nat) (h : k ≤ l.length) : pre l k = val (l.take k) := by
  induction k with
  | zero => simp [pre, val, valR]
  | succ k ih =>
    rw [pre, ih (by omega), List.take_add_one, List.getElem?_eq_getElem (by omega)]
    simp only [Option.toList_some]
    rw [val_append, val_one]
    unfold byteAt
    rw [List.getD_eq_getElem?_getD, List.getElem?_eq_getElem (by omega)]
    simp
theorem pre_val (l : List UInt8) (k : Nat) (h : k ≤ l.length) : pre l k = val l / 256 ^ (l.length - k) := by
  rw [pre_take l k h]
  have h1 : val l = val (l.take k) * 256 ^ (l.length - k) + val (l.drop k) := by
    conv => lhs; rw [← List.take_append_drop k l]
    rw [val_append, List.length_drop]
  have h2 := val_lt (l.drop k)
  rw [List.length_drop] at h2
  rw [h1, Nat.mul_comm, Nat.mul_add_div (by exact Nat.pow_pos (by omega)), Nat.div_eq_of_lt h2, Nat.add_zero]
theorem pre_bytes (f : Enc) (k : Nat) (h : k ≤ f.n) : pre f.bytes k = f.V / 256 ^ (f.n - k) := by
  unfold Enc.bytes
  rw [pre_trim, pre_val _ _ (by simpa [Enc.n, four_len] using h)]
  simp [Enc.V, Enc.n, four_len]
theorem Inside.pre {e f : Enc} (h : Inside e f) (hr : 1 ≤ f.r) : e.V ≤ pre f.bytes e.n ∧ pre f.bytes e.n < e.V + e.r := by
  have hp : 0 < 256 ^ (f.n - e.n) := Nat.pow_pos (by omega)
  rw [pre_bytes f _ h.n]
  refine ⟨(Nat.le_div_iff_mul_le hp).2 h.lo, (Nat.div_lt_iff_lt_mul hp).2 ?_⟩
  have := h.hi
  omega

/-! ### A decoder in step -/
structure Track (f : Enc) (d : Dec) (e : Enc) : Prop where
  bs : d.bs = f.bytes
  at_ : d.at_ = e.n
  r : d.r = e.r
  off : d.off + e.V = pre f.bytes e.n
theorem Track.step {f e : Enc} {d : Dec} (h : Track f d e) (hl : e.Fit) (hi : Inside e f) (hf : 1 ≤ f.r) : Track f d.step e.step := by
  obtain ⟨h1, h2, h3, h4⟩ := h
  have hp := hi.pre hf
  have hb := byteAt_lt f.bytes e.n
  refine ⟨h1, by rw [Enc.step_n]; show d.at_ + 1 = _; omega, by show d.r * 256 = e.r * 256; rw [h3], ?_⟩
  rw [Enc.step_n, Enc.step_V e hl.low]
  show min (d.off * 256 + byteAt d.bs d.at_) (d.r * 256) + e.V * 256 = Go.Proofs.YtnlfnknkiggejaaDoor.pre f.bytes e.n * 256 + byteAt f.bytes e.n
  rw [h1, h2, h3]
  omega
theorem Track.norm {f : Enc} (hf : 1 ≤ f.r) (k : Nat) : ∀ {e : Enc} {d : Dec}, Track f d e → e.Fit → Inside (Enc.norm k e) f → Track f (Dec.norm k d) (Enc.norm k e) := by
  induction k with
  | zero => intro e d h _ _; exact h
  | succ k ih =>
    intro e d h hl hi
    rw [Enc.norm] at hi ⊢
    rw [Dec.norm, h.r]
    split
    · rename_i hlt
      rw [if_pos hlt] at hi
      have hmid : Inside e.step f := (Enc.norm_fit k _ (Enc.step_fit hl)).2.trans hi
      exact ih (h.step hl ((Enc.step_inside hl).trans hmid) hf) (Enc.step_fit hl) hi
    · exact h
theorem Track.narrow {f e : Enc} {d : Dec} (h : Track f d e) (hl : e.Fit) (hf : 1 ≤ f.r) (v : Nat) (hv : v < e.r) (hr : e.r ≤ 4294967295) (b : Bool) (hi : Inside (e.narrow v b) f) :
    d.bit v = b ∧ Track f (d.narrow v) (e.narrow v b) := by
  have hp := Enc.part_fit hl v hv hr b
  have hmid : Inside (e.part v b) f := (Enc.norm_fit 3 _ hp.1).2.trans hi
  have hpre := hmid.pre hf
  have hV := (Enc.part_V hl v hv hr b).1
  have hn := Enc.part_n e v b
  have hR := Enc.part_r e v b
  obtain ⟨h1, h2, h3, h4⟩ := h
  rw [hV, hn, hR] at hpre
  have hbit : d.bit v = b := by
    unfold Dec.bit
    cases b with
    | true => simp only [if_true] at hpre; exact decide_eq_true (by omega)
    | false => simp at hpre; exact decide_eq_false (by omega)
  refine ⟨hbit, ?_⟩
  refine Track.norm hf 3 ?_ hp.1 hi
  have hle : (v ≤ d.off) = (b = true) := by
    unfold Dec.bit at hbit
    cases b <;> simp_all
  unfold Dec.part
  cases b with
  | true =>
    rw [if_pos (by rw [hle])]
    refine ⟨h1, by rw [hn]; exact h2, by rw [hR, h3]; rfl, ?_⟩
    rw [hV, hn]
    simp only [if_true] at hpre ⊢
    omega
  | false =>
    rw [if_neg (by rw [hle]; decide)]
    refine ⟨h1, by rw [hn]; exact h2, by rw [hR]; rfl, ?_⟩
    rw [hV, hn]
    simpa using h4
end Go.Proofs.YtnlfnknkiggejaaDoor
