/- Parts: XRacEq, XRound. -/
import Derived.Test.YtkkgpdejmcpcpaaGreatDoorM03
/- Plain laws: the program's range coder and the document's go alike. -/
namespace Go.Proofs.YtkkgpdejmcpcpaaGreatDoor

/-! ### Numbers of bytes -/
/-- Of bytes, the lowest first. -/
def valR : List UInt8 → Nat
  | [] => 0
  | x :: l => x.toNat + 256 * valR l
theorem valR_lt (l : List UInt8) : valR l < 256 ^ l.length := by
  induction l with
  | nil => simp [valR]
  | cons x l ih =>
    have := x.toNat_lt
    simp only [valR, List.length_cons, Nat.pow_succ]
    omega
theorem valR_inj : ∀ (l m : List UInt8), l.length = m.length → valR l = valR m → l = m
  | [], [], _, _ => rfl
  | x :: l, y :: m, h, hv => by
    have h1 := x.toNat_lt
    have h2 := y.toNat_lt
    simp only [valR] at hv
    have hx : x.toNat = y.toNat := by omega
    have hl : valR l = valR m := by omega
    rw [UInt8.toNat_inj.1 hx, valR_inj l m (by simpa using h) hl]
theorem valR_append (l m : List UInt8) : valR (l ++ m) = valR l + 256 ^ l.length * valR m := by
  induction l with
  | nil => simp [valR]
  | cons x l ih =>
    simp only [List.cons_append, valR, ih, List.length_cons, Nat.pow_succ]
    rw [Nat.mul_add, ← Nat.mul_assoc, Nat.mul_comm 256 (256 ^ l.length)]
    omega
theorem mod_step (a b m : Nat) : a % 256 + 256 * ((b + a / 256) % m) = (a + 256 * b) % (256 * m) := by
  rw [Nat.mod_mul]
  have h1 : (a + 256 * b) % 256 = a % 256 := by omega
  have h2 : (a + 256 * b) / 256 = b + a / 256 := by omega
  rw [h1, h2]
theorem valR_addRev (l : List UInt8) (v : Nat) : valR (addRev l v) = (valR l + v) % 256 ^ l.length := by
  induction l generalizing v with
  | nil => simp [addRev, valR, Nat.mod_one]
  | cons x l ih =>
    simp only [addRev]
    split
    · rename_i h
      subst h
      have := valR_lt (x :: l)
      rw [Nat.add_zero, Nat.mod_eq_of_lt this]
    · simp only [valR, ih, List.length_cons, Nat.pow_succ]
      rw [Nat.mul_comm (256 ^ l.length) 256]
      have := mod_step (v + x.toNat) (valR l) (256 ^ l.length)
      rw [show x.toNat + 256 * valR l + v = v + x.toNat + 256 * valR l by omega, ← this]
      simp
theorem valR_carryRev (l : List UInt8) : valR (carryRev l) = (valR l + 1) % 256 ^ l.length := by
  induction l with
  | nil => simp [carryRev, valR]
  | cons x l ih =>
    have hx := x.toNat_lt
    have hadd : (x + 1).toNat = (x.toNat + 1) % 256 := by rw [UInt8.toNat_add]; rfl
    simp only [carryRev]
    split
    · rename_i h
      have h0 : (x + 1).toNat = 0 := by rw [h]; rfl
      have hx255 : x.toNat = 255 := by omega
      simp only [valR, ih, List.length_cons, Nat.pow_succ, h0]
      rw [Nat.mul_comm (256 ^ l.length) 256]
      have := mod_step (x.toNat + 1) (valR l) (256 ^ l.length)
      rw [show x.toNat + 256 * valR l + 1 = x.toNat + 1 + 256 * valR l by omega, ← this, hx255]
    · rename_i h
      have h0 : (x + 1).toNat = x.toNat + 1 := by
        have : (x + 1).toNat ≠ 0 := fun e => h (UInt8.toNat_inj.1 (by simpa using e))
        omega
      simp only [valR, h0]
      have hlt := valR_lt ((x + 1) :: l)
      simp only [valR, h0, List.length_cons] at hlt
      rw [show x.toNat + 256 * valR l + 1 = x.toNat + 1 + 256 * valR l by omega, Nat.mod_eq_of_lt (by simpa using hlt)]

/-- Of bytes, the highest first. -/
def val (l : List UInt8) : Nat := valR l.reverse
theorem val_lt (l : List UInt8) : val l < 256 ^ l.length := by
  have := valR_lt l.reverse
  rwa [List.length_reverse] at this
theorem val_inj {l m : List UInt8} (h : l.length = m.length) (hv : val l = val m) : l = m := by
  have := valR_inj l.reverse m.reverse (by simp [h]) hv
  rw [← List.reverse_reverse l, this, List.reverse_reverse]
theorem val_append (l m : List UInt8) : val (l ++ m) = val l * 256 ^ m.length + val m := by
  unfold val
  rw [List.reverse_append, valR_append, List.length_reverse, Nat.mul_comm]
  omega
theorem val_addL (l : List UInt8) (v : Nat) : val (addL l v) = (val l + v) % 256 ^ l.length := by
  unfold val addL
  rw [List.reverse_reverse, valR_addRev, List.length_reverse]
theorem val_carry (l : List UInt8) : val (carry l) = (val l + 1) % 256 ^ l.length := by
  unfold val carry
  rw [List.reverse_reverse, valR_carryRev, List.length_reverse]
theorem four_len (low : Nat) : (four low).length = 4 := rfl
theorem val_four (low : Nat) (h : low ≤ 4294967295) : val (four low) = low := by
  simp [val, four, valR]
  omega
theorem val_one (x : UInt8) : val [x] = x.toNat := by simp [val, valR]

/-! ### The two encoders -/
structure EncSim (e : Enc) (x : REnc) : Prop where
  L : x.L = e.out ++ four e.low
  R : x.R = e.r
theorem EncSim.part {e : Enc} {x : REnc} (h : EncSim e x) (hlow : e.low ≤ 4294967295) (hr : e.r ≤ 4294967295) (v : Nat) (hv : v < e.r) (b : Bool) : EncSim (e.part v b) (x.part v b) := by
  obtain ⟨hL, hR⟩ := h
  cases b with
  | false => exact ⟨hL, rfl⟩
  | true =>
    refine ⟨?_, by simp only [REnc.part, Enc.part, if_true]; split <;> simp [hR]⟩
    simp only [REnc.part, Enc.part, if_true]
    apply val_inj
    · rw [addL_len, hL]
      split <;> simp [four, carry_len]
    · rw [val_addL, hL, val_append, four_len, val_four _ hlow, List.length_append, four_len]
      have hp : (256 : Nat) ^ 4 = 4294967296 := by decide
      split
      · rename_i hc
        simp only
        rw [val_append, four_len, val_carry, val_four _ (by omega), Nat.pow_add, hp]
        rw [show val e.out * 4294967296 + e.low + v = (e.low + v - 4294967296) + 4294967296 * (val e.out + 1) by omega, Nat.mul_comm (256 ^ e.out.length) 4294967296, Nat.mod_mul]
        rw [show ((e.low + v - 4294967296) + 4294967296 * (val e.out + 1)) % 4294967296 = e.low + v - 4294967296 by omega, show ((e.low + v - 4294967296) + 4294967296 * (val e.out + 1)) / 4294967296 = val e.out + 1 by omega]
        omega
      · rename_i hc
        simp only
        have hlt := val_lt e.out
        rw [val_append, four_len, val_four _ (by omega), Nat.pow_add, hp, Nat.mod_eq_of_lt]
        · omega
        · have : val e.out + 1 ≤ 256 ^ e.out.length := hlt
          have h2 : (val e.out + 1) * 4294967296 ≤ 256 ^ e.out.length * 4294967296 := Nat.mul_le_mul_right _ this
          omega
theorem four_shift (low : Nat) (h : low ≤ 4294967295) : four low ++ [0] = [UInt8.ofNat (low / 16777216)] ++ four (low * 256 % 4294967296) := by
  apply val_inj
  · rfl
  · rw [val_append, val_append, val_four _ h, four_len, val_four _ (by omega), val_one, val_one]
    simp
    omega
theorem EncSim.step {e : Enc} {x : REnc} (h : EncSim e x) (hlow : e.low ≤ 4294967295) : EncSim e.step x.step := by
  obtain ⟨hL, hR⟩ := h
  refine ⟨?_, by simp only [REnc.step, Enc.step, hR]⟩
  simp only [REnc.step, Enc.step, hL, List.append_assoc]
  rw [four_shift _ hlow]
theorem EncSim.norm (k : Nat) : ∀ {e : Enc} {x : REnc}, EncSim e x → e.low ≤ 4294967295 → EncSim (Enc.norm k e) (REnc.norm k x) := by
  induction k with
  | zero => intro e x h _; exact h
  | succ k ih =>
    intro e x h hlow
    rw [Enc.norm, REnc.norm, h.R]
    split
    · exact ih (h.step hlow) (by show e.low * 256 % 4294967296 ≤ _; omega)
    · exact h
theorem EncSim.narrow {e : Enc} {x : REnc} (h : EncSim e x) (hlow : e.low ≤ 4294967295) (hr : e.r ≤ 4294967295) (v : Nat) (hv : v < e.r) (b : Bool) : EncSim (e.narrow v b) (x.narrow v b) := by
  refine EncSim.norm 3 (h.part hlow hr v hv b) ?_
  unfold Enc.part
  cases b <;> simp only [if_true, Bool.false_eq_true, if_false] <;> (try split) <;> (try simp only) <;> omega

/-! ### The two decoders -/
structure DecSim (d x : Dec) : Prop where
  bs : d.bs = x.bs
  at_ : d.at_ = x.at_
  off : d.off = min x.off x.r
  r : d.r = x.r
theorem DecSim.bit {d x : Dec} (h : DecSim d x) (v : Nat) (hv : v < x.r) : d.bit v = x.bit v := by
  unfold Dec.bit
  rw [h.off]
  by_cases hx : v ≤ x.off
  · rw [decide_eq_true hx, decide_eq_true (by omega)]
  · rw [decide_eq_false hx, decide_eq_false (by omega)]
theorem DecSim.part {d x : Dec} (h : DecSim d x) (v : Nat) (hv : v < x.r) : DecSim (d.part v) (x.part v) := by
  obtain ⟨h1, h2, h3, h4⟩ := h
  unfold Dec.part
  by_cases hx : v ≤ x.off
  · rw [if_pos hx, if_pos (by omega)]
    exact ⟨h1, h2, by simp only; omega, by simp only; omega⟩
  · rw [if_neg hx, if_neg (by omega)]
    exact ⟨h1, h2, by simp only; omega, rfl⟩
theorem DecSim.step {d x : Dec} (h : DecSim d x) (hr : x.r < 16777216) : DecSim d.step x.rstep := by
  obtain ⟨h1, h2, h3, h4⟩ := h
  have hb := byteAt_lt x.bs x.at_
  exact ⟨h1, by simp only [Dec.step, Dec.rstep, h2], by simp only [Dec.step, Dec.rstep, h1, h2, h3, h4]; omega, by simp only [Dec.step, Dec.rstep, h4]⟩
theorem DecSim.norm (k : Nat) : ∀ {d x : Dec}, DecSim d x → DecSim (Dec.norm k d) (Dec.rnorm k x) := by
  induction k with
  | zero => intro d x h; exact h
  | succ k ih =>
    intro d x h
    rw [Dec.norm, Dec.rnorm, h.r]
    split
    · rename_i hlt
      exact ih (h.step hlt)
    · exact h
theorem DecSim.narrow {d x : Dec} (h : DecSim d x) (v : Nat) (hv : v < x.r) : DecSim (d.narrow v) (x.rnarrow v) := DecSim.norm 3 (h.part v hv)
theorem DecSim.new (bs : List UInt8) : DecSim (Dec.new bs) (Dec.rnew bs) := by
  have h0 := byteAt_lt bs 0
  have h1 := byteAt_lt bs 1
  have h2 := byteAt_lt bs 2
  have h3 := byteAt_lt bs 3
  refine ⟨rfl, rfl, ?_, rfl⟩
  simp only [Dec.new, Dec.rnew, Dec.rnext, pre, Nat.zero_add, Nat.zero_mul, Nat.reduceAdd]
  omega

/-! ### Two machines that go alike -/
structure Alike {σ τ : Type} (M : Mach σ) (N : Mach τ) (R : σ → τ → Prop) : Prop where
  bit : ∀ s t c u, R s t → c < 64 → (M.bit s c u).1 = (N.bit t c u).1 ∧ R (M.bit s c u).2 (N.bit t c u).2
  flat : ∀ s t u, R s t → (M.flat s u).1 = (N.flat t u).1 ∧ R (M.flat s u).2 (N.flat t u).2
section
variable {σ τ : Type} {M : Mach σ} {N : Mach τ} {R : σ → τ → Prop}
theorem Alike.any (H : Alike M N R) {s : σ} {t : τ} (h : R s t) (c : Int) (u : Bool) : (M.anyBit s c u).1 = (N.anyBit t c u).1 ∧ R (M.anyBit s c u).2 (N.anyBit t c u).2 := by
  unfold Mach.anyBit
  split
  · exact H.bit s t _ u h (by omega)
  · exact H.flat s t u h
theorem Alike.ones (H : Alike M N R) {f : Nat → Nat} (hf : ∀ n, f n < 64) (v v' : Int) (top : Nat) (hv : ∀ n : Nat, n < top → decide ((n : Int) < v) = decide ((n : Int) < v')) :
    ∀ (k n : Nat) (s : σ) (t : τ), n + k ≤ top → R s t → (M.ones f v k n s).1 = (N.ones f v' k n t).1 ∧ R (M.ones f v k n s).2 (N.ones f v' k n t).2 := by
  intro k
  induction k with
  | zero => intro n s t _ h; exact ⟨rfl, h⟩
  | succ k ih =>
    intro n s t hn h
    have hb := H.bit s t (f n) (decide ((n : Int) < v')) h (hf n)
    simp only [Mach.ones]
    rw [hv n (by omega), hb.1]
    split
    · exact ih (n + 1) _ _ (by omega) hb.2
    · exact ⟨rfl, hb.2⟩
theorem Alike.kind (H : Alike M N R) {s : σ} {t : τ} (h : R s t) (k k' : Int) (hk : ∀ n : Nat, n < 3 → decide ((n : Int) < k) = decide ((n : Int) < k')) : (M.kind k s).1 = (N.kind k' t).1 ∧ R (M.kind k s).2 (N.kind k' t).2 := by
  have := H.ones (f := fun n => if n < 64 then n else 0) (fun n => by split <;> omega) k k' 3 hk 3 0 s t (by omega) h
  have e : ∀ {σ : Type} (M : Mach σ) (v : Int) (s : σ), M.ones (fun n => if n < 64 then n else 0) v 3 0 s = M.ones (fun n => n) v 3 0 s := fun M v s => rfl
  rw [e, e] at this
  unfold Mach.kind
  exact ⟨by simp only [this.1], this.2⟩
theorem Alike.mode (H : Alike M N R) {s : σ} {t : τ} (h : R s t) (m : Int) : (M.mode m s).1 = (N.mode m t).1 ∧ R (M.mode m s).2 (N.mode m t).2 := by
  have h1 := H.bit s t 3 (decide (1 < cut m 0 3)) h (by omega)
  unfold Mach.mode
  simp only
  rw [h1.1]
  have h2 := H.bit _ _ (if (N.bit t 3 (decide (1 < cut m 0 3))).1 then 5 else 4) (decide (cut m 0 3 % 2 = 1)) h1.2 (by split <;> omega)
  rw [h2.1]
  exact ⟨rfl, h2.2⟩
theorem Alike.part (H : Alike M N R) {s : σ} {t : τ} (h : R s t) (v : Int) : (M.part v s).1 = (N.part v t).1 ∧ R (M.part v s).2 (N.part v t).2 := by
  have h1 := H.bit s t 6 (decide (cut v (-15) 15 ≠ 0)) h (by omega)
  unfold Mach.part
  simp only
  rw [h1.1]
  split
  · have h2 := H.flat _ _ (decide (cut v (-15) 15 < 0)) h1.2
    have h3 := H.ones (f := fun n => 7 + min n 6) (fun n => by omega) (max (cut v (-15) 15) (-(cut v (-15) 15)) - 1) _ 14 (fun _ _ => rfl) 14 0 _ _ (by omega) h2.2
    rw [h2.1, h3.1]
    exact ⟨rfl, h3.2⟩
  · exact ⟨rfl, h1.2⟩
end

structure WrSim (s : Wr) (x : XWr) : Prop where
  P : s.P = x.P
  e : EncSim s.e x.e
  ok : POk s.P
  r0 : 16777216 ≤ s.e.r
  r1 : s.e.r ≤ 4294967295
  low : s.e.low ≤ 4294967295
structure RdSim (s : Rd) (x : XRd) : Prop where
  P : s.P = x.P
  d : DecSim s.d x.d
  ok : POk s.P
  r0 : 16777216 ≤ s.d.r
  r1 : s.d.r ≤ 4294967295
  off : s.d.off ≤ s.d.r

theorem wr_alike : Alike wrM xwM WrSim where
  bit := by
    rintro s t c u ⟨hP, he, ok, r0, r1, low⟩ hc
    have hs := share_ok (p := s.P.getD c 0) r0 (by have := ok.lo _ hc; omega) (by have := ok.hi _ hc; omega)
    have hk := Enc.narrow_ok (e := s.e) (lim := s.e.out.length) ⟨r0, r1, low, Nat.le_refl _⟩ hs.1 hs.2 u
    refine ⟨rfl, ⟨?_, ?_, ok.learn _ hc _, hk.r0, hk.r1, hk.low⟩⟩
    · show learnAt s.P c u = learnAt t.P c u
      rw [hP]
    · show EncSim (s.e.narrow (s.e.r / 2048 * s.P.getD c 0) u) (t.e.narrow (t.e.R / 2048 * t.P.getD c 0) u)
      rw [← hP, he.R]
      exact he.narrow low r1 _ hs.2 u
  flat := by
    rintro s t u ⟨hP, he, ok, r0, r1, low⟩
    have hs := half_ok r0
    have hk := Enc.narrow_ok (e := s.e) (lim := s.e.out.length) ⟨r0, r1, low, Nat.le_refl _⟩ hs.1 hs.2 u
    refine ⟨rfl, ⟨hP, ?_, ok, hk.r0, hk.r1, hk.low⟩⟩
    show EncSim (s.e.narrow (s.e.r / 2) u) (t.e.narrow (t.e.R / 2) u)
    rw [he.R]
    exact he.narrow low r1 _ hs.2 u
theorem rd_alike : Alike rdM xrM RdSim where
  bit := by
    rintro s t c u ⟨hP, hd, ok, r0, r1, off⟩ hc
    have hs := share_ok (p := s.P.getD c 0) r0 (by have := ok.lo _ hc; omega) (by have := ok.hi _ hc; omega)
    have hk := (Dec.narrow_ok (d := s.d) (lim := s.d.at_) ⟨r0, r1, off, Nat.le_refl _⟩ hs.1 hs.2).1
    have hb : s.d.bit (s.d.r / 2048 * s.P.getD c 0) = t.d.bit (t.d.r / 2048 * t.P.getD c 0) := by
      rw [← hP, ← hd.r]
      exact hd.bit _ (by rw [← hd.r]; exact hs.2)
    refine ⟨hb, ⟨?_, ?_, ok.learn _ hc _, hk.r0, hk.r1, hk.off⟩⟩
    · show learnAt s.P c (s.d.bit (s.d.r / 2048 * s.P.getD c 0)) = learnAt t.P c (t.d.bit (t.d.r / 2048 * t.P.getD c 0))
      rw [hb, hP]
    · show DecSim (s.d.narrow (s.d.r / 2048 * s.P.getD c 0)) (t.d.rnarrow (t.d.r / 2048 * t.P.getD c 0))
      rw [← hP, ← hd.r]
      exact hd.narrow _ (by rw [← hd.r]; exact hs.2)
  flat := by
    rintro s t u ⟨hP, hd, ok, r0, r1, off⟩
    have hs := half_ok r0
    have hk := (Dec.narrow_ok (d := s.d) (lim := s.d.at_) ⟨r0, r1, off, Nat.le_refl _⟩ hs.1 hs.2).1
    refine ⟨?_, ⟨hP, ?_, ok, hk.r0, hk.r1, hk.off⟩⟩
    · show s.d.bit (s.d.r / 2) = t.d.bit (t.d.r / 2)
      rw [← hd.r]
      exact hd.bit _ (by rw [← hd.r]; exact hs.2)
    · show DecSim (s.d.narrow (s.d.r / 2)) (t.d.rnarrow (t.d.r / 2))
      rw [← hd.r]
      exact hd.narrow _ (by rw [← hd.r]; exact hs.2)
end Go.Proofs.YtkkgpdejmcpcpaaGreatDoor

/- Plain laws: what was coded comes back. -/
namespace Go.Proofs.YtkkgpdejmcpcpaaGreatDoor

/-! ### An encoder as an interval -/
def Enc.V (e : Enc) : Nat := val (e.out ++ four e.low)
def Enc.n (e : Enc) : Nat := e.out.length + 4
/-- The interval lies within what the bytes can say. -/
structure Enc.Fit (e : Enc) : Prop where
  low : e.low ≤ 4294967295
  top : e.V + e.r ≤ 256 ^ e.n
theorem Enc.V_eq (e : Enc) (h : e.low ≤ 4294967295) : e.V = val e.out * 4294967296 + e.low := by
  unfold Enc.V
  rw [val_append, val_four _ h, four_len]
/-- What comes after lies within. -/
structure Inside (e f : Enc) : Prop where
  n : e.n ≤ f.n
  lo : e.V * 256 ^ (f.n - e.n) ≤ f.V
  hi : f.V + f.r ≤ (e.V + e.r) * 256 ^ (f.n - e.n)
theorem Inside.refl (e : Enc) : Inside e e := ⟨Nat.le_refl _, by simp, by simp⟩
theorem Inside.trans {e f g : Enc} (h : Inside e f) (k : Inside f g) : Inside e g := by
  have hp : 256 ^ (g.n - e.n) = 256 ^ (f.n - e.n) * 256 ^ (g.n - f.n) := by
    rw [← Nat.pow_add]
    congr 1
    have := h.n; have := k.n; omega
  refine ⟨Nat.le_trans h.n k.n, ?_, ?_⟩
  · rw [hp, ← Nat.mul_assoc]
    exact Nat.le_trans (Nat.mul_le_mul_right _ h.lo) k.lo
  · rw [hp, ← Nat.mul_assoc]
    exact Nat.le_trans k.hi (Nat.mul_le_mul_right _ h.hi)

theorem Enc.step_V (e : Enc) (h : e.low ≤ 4294967295) : e.step.V = e.V * 256 := by
  rw [Enc.V_eq e h, Enc.V_eq e.step (by show e.low * 256 % 4294967296 ≤ _; omega)]
  show val (e.out ++ [UInt8.ofNat (e.low / 16777216)]) * 4294967296 + e.low * 256 % 4294967296 = _
  rw [val_append, val_one]
  have : (UInt8.ofNat (e.low / 16777216)).toNat = e.low / 16777216 := by simp; omega
  rw [this]
  simp only [List.length_cons, List.length_nil]
  omega
theorem Enc.step_n (e : Enc) : e.step.n = e.n + 1 := by show (e.out ++ [_]).length + 4 = _; simp [Enc.n]
theorem Enc.step_fit {e : Enc} (h : e.Fit) : e.step.Fit := by
  refine ⟨by show e.low * 256 % 4294967296 ≤ _; omega, ?_⟩
  rw [Enc.step_V e h.low, Enc.step_n, Nat.pow_succ]
  show e.V * 256 + e.r * 256 ≤ _
  have := h.top
  omega
theorem Enc.step_inside {e : Enc} (h : e.Fit) : Inside e e.step := by
  have hn := Enc.step_n e
  have hk : e.step.n - e.n = 1 := by omega
  refine ⟨by omega, ?_, ?_⟩
  · rw [hk, Enc.step_V e h.low]; omega
  · rw [hk, Enc.step_V e h.low]
    show e.V * 256 + e.r * 256 ≤ _
    omega
theorem Enc.norm_fit (k : Nat) : ∀ (e : Enc), e.Fit → (Enc.norm k e).Fit ∧ Inside e (Enc.norm k e) := by
  induction k with
  | zero => intro e h; exact ⟨h, Inside.refl _⟩
  | succ k ih =>
    intro e h
    rw [Enc.norm]
    split
    · have := ih e.step (Enc.step_fit h)
      exact ⟨this.1, (Enc.step_inside h).trans this.2⟩
    · exact ⟨h, Inside.refl _⟩
theorem Enc.part_n (e : Enc) (v : Nat) (b : Bool) : (e.part v b).n = e.n := by
  unfold Enc.part Enc.n
  cases b <;> simp
  split <;> simp [carry_len]
theorem Enc.part_r (e : Enc) (v : Nat) (b : Bool) : (e.part v b).r = if b then e.r - v else v := by
  unfold Enc.part
  cases b <;> simp
  split <;> rfl
theorem Enc.part_V {e : Enc} (h : e.Fit) (v : Nat) (hv : v < e.r) (hr : e.r ≤ 4294967295) (b : Bool) : (e.part v b).V = (if b then e.V + v else e.V) ∧ (e.part v b).low ≤ 4294967295 := by
  cases b with
  | false => exact ⟨rfl, h.low⟩
  | true =>
    have hl := h.low
    have ht := h.top
    rw [Enc.V_eq e hl] at ht
    have hpow : 256 ^ e.n = 256 ^ e.out.length * 4294967296 := by unfold Enc.n; rw [Nat.pow_add]
    rw [hpow] at ht
    unfold Enc.part
    rw [if_pos rfl]
    split
    · rename_i hc
      have hlow : e.low + v - 4294967296 ≤ 4294967295 := by omega
      refine ⟨?_, hlow⟩
      rw [Enc.V_eq ⟨carry e.out, e.low + v - 4294967296, e.r - v⟩ hlow, Enc.V_eq e hl]
      show val (carry e.out) * 4294967296 + (e.low + v - 4294967296) = _
      rw [val_carry, Nat.mod_eq_of_lt (by
        have : val e.out * 4294967296 + 4294967296 < 256 ^ e.out.length * 4294967296 + 1 := by omega
        rcases Nat.lt_or_ge (val e.out + 1) (256 ^ e.out.length) with h1 | h1
        · exact h1
        · exfalso
          have h2 := Nat.mul_le_mul_right 4294967296 h1
          omega)]
      simp only [if_true]
      omega
    · rename_i hc
      have hlow : e.low + v ≤ 4294967295 := by omega
      refine ⟨?_, hlow⟩
      rw [Enc.V_eq ⟨e.out, e.low + v, e.r - v⟩ hlow, Enc.V_eq e hl]
      simp only [if_true]
      omega
theorem Enc.part_fit {e : Enc} (h : e.Fit) (v : Nat) (hv : v < e.r) (hr : e.r ≤ 4294967295) (b : Bool) : (e.part v b).Fit ∧ Inside e (e.part v b) := by
  obtain ⟨hV, hl⟩ := Enc.part_V h v hv hr b
  have hn := Enc.part_n e v b
  have hR := Enc.part_r e v b
  have ht := h.top
  refine ⟨⟨hl, ?_⟩, ⟨by omega, ?_, ?_⟩⟩
  · rw [hV, hn, hR]; cases b <;> simp <;> omega
  · rw [hn, Nat.sub_self, hV]; cases b <;> simp
  · rw [hn, Nat.sub_self, hV, hR]; cases b <;> simp <;> omega
theorem Enc.narrow_fit {e : Enc} (h : e.Fit) (v : Nat) (hv : v < e.r) (hr : e.r ≤ 4294967295) (b : Bool) : (e.narrow v b).Fit ∧ Inside e (e.narrow v b) := by
  have h1 := Enc.part_fit h v hv hr b
  have h2 := Enc.norm_fit 3 _ h1.1
  exact ⟨h2.1, h1.2.trans h2.2⟩

/-! ### The bytes of the last state, read from the first on -/
theorem trim_zeros (l : List UInt8) : ∃ m, l = trim l ++ List.replicate m 0 := by
  have h : ∀ r : List UInt8, ∃ m, r = List.replicate m 0 ++ trimRev r := by
    intro r
    induction r with
    | nil => exact ⟨0, rfl⟩
    | cons x r ih =>
      obtain ⟨m, hm⟩ := ih
      simp only [trimRev]
      split
      · rename_i hx
        subst hx
        exact ⟨m + 1, by rw [List.replicate_succ, List.cons_append, ← hm]⟩
      · exact ⟨0, rfl⟩
  obtain ⟨m, hm⟩ := h l.reverse
  refine ⟨m, ?_⟩
  have := congrArg List.reverse hm
  rw [List.reverse_reverse, List.reverse_append, List.reverse_replicate] at this
  exact this
theorem byteAt_trim (l : List UInt8) (k : Nat) : byteAt (trim l) k = byteAt l k := by
  obtain ⟨m, hm⟩ := trim_zeros l
  conv => rhs; rw [hm]
  unfold byteAt
  rw [List.getD_eq_getElem?_getD, List.getD_eq_getElem?_getD, List.getElem?_append]
  split
  · rfl
  · rename_i h
    rw [List.getElem?_eq_none (by omega)]
    rw [List.getElem?_replicate]
    split <;> rfl
theorem pre_trim (l : List UInt8) (k : Nat) : pre (trim l) k = pre l k := by
  induction k with
  | zero => rfl
  | succ k ih => rw [pre, pre, ih, byteAt_trim]
theorem pre_take (l : List UInt8) (k : Nat) (h : k ≤ l.length) : pre l k = val (l.take k) := by
  induction k with
  | zero => simp [pre, val, valR]
  | succ k ih =>
    rw [pre, ih (by omega), List.take_add_one, List.getElem?_eq_getElem (by omega)]
    simp only [Option.toList_some]
    rw [val_append, val_one]
    unfold byteAt
    rw [List.getD_eq_getElem?_getD, List.getElem?_eq_getElem (by omega)]
    simp
theorem pre_val (l : List UInt8) (k : Nat) (h : k ≤ l.length) : pre l k = val l / 256 ^ (l.length - k) := by
  rw [pre_take l k h]
  have h1 : val l = val (l.take k) * 256 ^ (l.length - k) + val (l.drop k) := by
    conv => lhs; rw [← List.take_append_drop k l]
    rw [val_append, List.length_drop]
  have h2 := val_lt (l.drop k)
  rw [List.length_drop] at h2
  rw [h1, Nat.mul_comm, Nat.mul_add_div (by exact Nat.pow_pos (by omega)), Nat.div_eq_of_lt h2, Nat.add_zero]
theorem pre_bytes (f : Enc) (k : Nat) (h : k ≤ f.n) : pre f.bytes k = f.V / 256 ^ (f.n - k) := by
  unfold Enc.bytes
  rw [pre_trim, pre_val _ _ (by simpa [Enc.n, four_len] using h)]
  simp [Enc.V, Enc.n, four_len]
theorem Inside.pre {e f : Enc} (h : Inside e f) (hr : 1 ≤ f.r) : e.V ≤ pre f.bytes e.n ∧ pre f.bytes e.n < e.V + e.r := by
  have hp : 0 < 256 ^ (f.n - e.n) := Nat.pow_pos (by omega)
  rw [pre_bytes f _ h.n]
  refine ⟨(Nat.le_div_iff_mul_le hp).2 h.lo, (Nat.div_lt_iff_lt_mul hp).2 ?_⟩
  have := h.hi
  omega

/-! ### A decoder in step -/
structure Track (f : Enc) (d : Dec) (e : Enc) : Prop where
  bs : d.bs = f.bytes
  at_ : d.at_ = e.n
  r : d.r = e.r
  off : d.off + e.V = pre f.bytes e.n
theorem Track.step {f e : Enc} {d : Dec} (h : Track f d e) (hl : e.Fit) (hi : Inside e f) (hf : 1 ≤ f.r) : Track f d.step e.step := by
  obtain ⟨h1, h2, h3, h4⟩ := h
  have hp := hi.pre hf
  have hb := byteAt_lt f.bytes e.n
  refine ⟨h1, by rw [Enc.step_n]; show d.at_ + 1 = _; omega, by show d.r * 256 = e.r * 256; rw [h3], ?_⟩
  rw [Enc.step_n, Enc.step_V e hl.low]
  show min (d.off * 256 + byteAt d.bs d.at_) (d.r * 256) + e.V * 256 = Go.Proofs.YtkkgpdejmcpcpaaGreatDoor.pre f.bytes e.n * 256 + byteAt f.bytes e.n
  rw [h1, h2, h3]
  omega
theorem Track.norm {f : Enc} (hf : 1 ≤ f.r) (k : Nat) : ∀ {e : Enc} {d : Dec}, Track f d e → e.Fit → Inside (Enc.norm k e) f → Track f (Dec.norm k d) (Enc.norm k e) := by
  induction k with
  | zero => intro e d h _ _; exact h
  | succ k ih =>
    intro e d h hl hi
    rw [Enc.norm] at hi ⊢
    rw [Dec.norm, h.r]
    split
    · rename_i hlt
      rw [if_pos hlt] at hi
      have hmid : Inside e.step f := (Enc.norm_fit k _ (Enc.step_fit hl)).2.trans hi
      exact ih (h.step hl ((Enc.step_inside hl).trans hmid) hf) (Enc.step_fit hl) hi
    · exact h
theorem Track.narrow {f e : Enc} {d : Dec} (h : Track f d e) (hl : e.Fit) (hf : 1 ≤ f.r) (v : Nat) (hv : v < e.r) (hr : e.r ≤ 4294967295) (b : Bool) (hi : Inside (e.narrow v b) f) :
    d.bit v = b ∧ Track f (d.narrow v) (e.narrow v b) := by
  have hp := Enc.part_fit hl v hv hr b
  have hmid : Inside (e.part v b) f := (Enc.norm_fit 3 _ hp.1).2.trans hi
  have hpre := hmid.pre hf
  have hV := (Enc.part_V hl v hv hr b).1
  have hn := Enc.part_n e v b
  have hR := Enc.part_r e v b
  obtain ⟨h1, h2, h3, h4⟩ := h
  rw [hV, hn, hR] at hpre
  have hbit : d.bit v = b := by
    unfold Dec.bit
    cases b with
    | true => simp only [if_true] at hpre; exact decide_eq_true (by omega)
    | false => simp at hpre; exact decide_eq_false (by omega)
  refine ⟨hbit, ?_⟩
  refine Track.norm hf 3 ?_ hp.1 hi
  have hle : (v ≤ d.off) = (b = true) := by
    unfold Dec.bit at hbit
    cases b <;> simp_all
  unfold Dec.part
  cases b with
  | true =>
    rw [if_pos (by rw [hle])]
    refine ⟨h1, by rw [hn]; exact h2, by rw [hR, h3]; rfl, ?_⟩
    rw [hV, hn]
    simp only [if_true] at hpre ⊢
    omega
  | false =>
    rw [if_neg (by rw [hle]; decide)]
    refine ⟨h1, by rw [hn]; exact h2, by rw [hR]; rfl, ?_⟩
    rw [hV, hn]
    simpa using h4
end Go.Proofs.YtkkgpdejmcpcpaaGreatDoor

