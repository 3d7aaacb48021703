/- Parts: XRacEq. -/
import Derived.Test.YtkkgpdejmcpcpaaGreatDoorM03
/- Plain laws: the program's range coder and the document's go alike. -/
namespace Go.Proofs.YtkkgpdejmcpcpaaGreatDoor

/-! ### Numbers of bytes -/
/-- Of bytes, the lowest first. -/
def valR : List UInt8 → Nat
  | [] => 0
  | x :: l => x.toNat + 256 * valR l
theorem valR_lt (l : List UInt8) : valR l < 256 ^ l.length := by
  induction l with
  | nil => simp [valR]
  | cons x l ih =>
    have := x.toNat_lt
    simp only [valR, List.length_cons, Nat.pow_succ]
    omega
theorem valR_inj : ∀ (l m : List UInt8), l.length = m.length → valR l = valR m → l = m
  | [], [], _, _ => rfl
  | x :: l, y :: m, h, hv => by
    have h1 := x.toNat_lt
    have h2 := y.toNat_lt
    simp only [valR] at hv
    have hx : x.toNat = y.toNat := by omega
    have hl : valR l = valR m := by omega
    rw [UInt8.toNat_inj.1 hx, valR_inj l m (by simpa using h) hl]
theorem valR_append (l m : List UInt8) : valR (l ++ m) = valR l + 256 ^ l.length * valR m := by
  induction l with
  | nil => simp [valR]
  | cons x l ih =>
    simp only [List.cons_append, valR, ih, List.length_cons, Nat.pow_succ]
    rw [Nat.mul_add, ← Nat.mul_assoc, Nat.mul_comm 256 (256 ^ l.length)]
    omega
theorem mod_step (a b m : Nat) : a % 256 + 256 * ((b + a / 256) % m) = (a + 256 * b) % (256 * m) := by
  rw [Nat.mod_mul]
  have h1 : (a + 256 * b) % 256 = a % 256 := by omega
  have h2 : (a + 256 * b) / 256 = b + a / 256 := by omega
  rw [h1, h2]
theorem valR_addRev (l : List UInt8) (v : Nat) : valR (addRev l v) = (valR l + v) % 256 ^ l.length := by
  induction l generalizing v with
  | nil => simp [addRev, valR, Nat.mod_one]
  | cons x l ih =>
    simp only [addRev]
    split
    · rename_i h
      subst h
      have := valR_lt (x :: l)
      rw [Nat.add_zero, Nat.mod_eq_of_lt this]
    · simp only [valR, ih, List.length_cons, Nat.pow_succ]
      rw [Nat.mul_comm (256 ^ l.length) 256]
      have := mod_step (v + x.toNat) (valR l) (256 ^ l.length)
      rw [show x.toNat + 256 * valR l + v = v + x.toNat + 256 * valR l by omega, ← this]
      simp
theorem valR_carryRev (l : List UInt8) : valR (carryRev l) = (valR l + 1) % 256 ^ l.length := by
  induction l with
  | nil => simp [carryRev, valR]
  | cons x l ih =>
    have hx := x.toNat_lt
    have hadd : (x + 1).toNat = (x.toNat + 1) % 256 := by rw [UInt8.toNat_add]; rfl
    simp only [carryRev]
    split
    · rename_i h
      have h0 : (x + 1).toNat = 0 := by rw [h]; rfl
      have hx255 : x.toNat = 255 := by omega
      simp only [valR, ih, List.length_cons, Nat.pow_succ, h0]
      rw [Nat.mul_comm (256 ^ l.length) 256]
      have := mod_step (x.toNat + 1) (valR l) (256 ^ l.length)
      rw [show x.toNat + 256 * valR l + 1 = x.toNat + 1 + 256 * valR l by omega, ← this, hx255]
    · rename_i h
      have h0 : (x + 1).toNat = x.toNat + 1 := by
        have : (x + 1).toNat ≠ 0 := fun e => h (UInt8.toNat_inj.1 (by simpa using e))
        omega
      simp only [valR, h0]
      have hlt := valR_lt ((x + 1) :: l)
      simp only [valR, h0, List.length_cons] at hlt
      rw [show x.toNat + 256 * valR l + 1 = x.toNat + 1 + 256 * valR l by omega, Nat.mod_eq_of_lt (by simpa using hlt)]

/-- Of bytes, the highest first. -/
def val (l : List UInt8) : Nat := valR l.reverse
theorem val_lt (l : List UInt8) : val l < 256 ^ l.length := by
  have := valR_lt l.reverse
  rwa [List.length_reverse] at this
theorem val_inj {l m : List UInt8} (h : l.length = m.length) (hv : val l = val m) : l = m := by
  have := valR_inj l.reverse m.reverse (by simp [h]) hv
  rw [← List.reverse_reverse l, this, List.reverse_reverse]
theorem val_append (l m : List UInt8) : val (l ++ m) = val l * 256 ^ m.length + val m := by
  unfold val
  rw [List.reverse_append, valR_append, List.length_reverse, Nat.mul_comm]
  omega
theorem val_addL (l : List UInt8) (v : Nat) : val (addL l v) = (val l + v) % 256 ^ l.length := by
  unfold val addL
  rw [List.reverse_reverse, valR_addRev, List.length_reverse]
theorem val_carry (l : List UInt8) : val (carry l) = (val l + 1) % 256 ^ l.length := by
  unfold val carry
  rw [List.reverse_reverse, valR_carryRev, List.length_reverse]
theorem four_len (low : Nat) : (four low).length = 4 := rfl
theorem val_four (low : Nat) (h : low ≤ 4294967295) : val (four low) = low := by
  simp [val, four, valR]
  omega
theorem val_one (x : UInt8) : val [x] = x.toNat := by simp [val, valR]

/-! ### The two encoders -/
structure EncSim (e : Enc) (x : REnc) : Prop where
  L : x.L = e.out ++ four e.low
  R : x.R = e.r
theorem EncSim.part {e : Enc} {x : REnc} (h : EncSim e x) (hlow : e.low ≤ 4294967295) (hr : e.r ≤ 4294967295) (v : Nat) (hv : v < e.r) (b : Bool) : EncSim (e.part v b) (x.part v b) := by
  obtain ⟨hL, hR⟩ := h
  cases b with
  | false => exact ⟨hL, rfl⟩
  | true =>
    refine ⟨?_, by simp only [REnc.part, Enc.part, if_true]; split <;> simp [hR]⟩
    simp only [REnc.part, Enc.part, if_true]
    apply val_inj
    · rw [addL_len, hL]
      split <;> simp [four, carry_len]
    · rw [val_addL, hL, val_append, four_len, val_four _ hlow, List.length_append, four_len]
      have hp : (256 : Nat) ^ 4 = 4294967296 := by decide
      split
      · rename_i hc
        simp only
        rw [val_append, four_len, val_carry, val_four _ (by omega), Nat.pow_add, hp]
        rw [show val e.out * 4294967296 + e.low + v = (e.low + v - 4294967296) + 4294967296 * (val e.out + 1) by omega, Nat.mul_comm (256 ^ e.out.length) 4294967296, Nat.mod_mul]
        rw [show ((e.low + v - 4294967296) + 4294967296 * (val e.out + 1)) % 4294967296 = e.low + v - 4294967296 by omega, show ((e.low + v - 4294967296) + 4294967296 * (val e.out + 1)) / 4294967296 = val e.out + 1 by omega]
        omega
      · rename_i hc
        simp only
        have hlt := val_lt e.out
        rw [val_append, four_len, val_four _ (by omega), Nat.pow_add, hp, Nat.mod_eq_of_lt]
        · omega
        · have : val e.out + 1 ≤ 256 ^ e.out.length := hlt
          have h2 : (val e.out + 1) * 4294967296 ≤ 256 ^ e.out.length * 4294967296 := Nat.mul_le_mul_right _ this
          omega
theorem four_shift (low : Nat) (h : low ≤ 4294967295) : four low ++ [0] = [UInt8.ofNat (low / 16777216)] ++ four (low * 256 % 4294967296) := by
  apply val_inj
  · rfl
  · rw [val_append, val_append, val_four _ h, four_len, val_four _ (by omega), val_one, val_one]
    simp
    omega
theorem EncSim.step {e : Enc} {x : REnc} (h : EncSim e x) (hlow : e.low ≤ 4294967295) : EncSim e.step x.step := by
  obtain ⟨hL, hR⟩ := h
  refine ⟨?_, by simp only [REnc.step, Enc.step, hR]⟩
  simp only [REnc.step, Enc.step, hL, List.append_assoc]
  rw [four_shift _ hlow]
theorem EncSim.norm (k : Nat) : ∀ {e : Enc} {x : REnc}, EncSim e x → e.low ≤ 4294967295 → EncSim (Enc.norm k e) (REnc.norm k x) := by
  induction k with
  | zero => intro e x h _; exact h
  | succ k ih =>
    intro e x h hlow
    rw [Enc.norm, REnc.norm, h.R]
    split
    · exact ih (h.step hlow) (by show e.low * 256 % 4294967296 ≤ _; omega)
    · exact h
theorem EncSim.narrow {e : Enc} {x : REnc} (h : EncSim e x) (hlow : e.low ≤ 4294967295) (hr : e.r ≤ 4294967295) (v : Nat) (hv : v < e.r) (b : Bool) : EncSim (e.narrow v b) (x.narrow v b) := by
  refine EncSim.norm 3 (h.part hlow hr v hv b) ?_
  unfold Enc.part
  cases b <;> simp only [if_true, Bool.false_eq_true, if_false] <;> (try split) <;> (try simp only) <;> omega

/-! ### The two decoders -/
structure DecSim (d x : Dec) : Prop where
  bs : d.bs = x.bs
  at_ : d.at_ = x.at_
  off : d.off = min x.off x.r
  r : d.r = x.r
theorem DecSim.bit {d x : Dec} (h : DecSim d x) (v : Nat) (hv : v < x.r) : d.bit v = x.bit v := by
  unfold Dec.bit
  rw [h.off]
  by_cases hx : v ≤ x.off
  · rw [decide_eq_true hx, decide_eq_true (by omega)]
  · rw [decide_eq_false hx, decide_eq_false (by omega)]
theorem DecSim.part {d x : Dec} (h : DecSim d x) (v : Nat) (hv : v < x.r) : DecSim (d.part v) (x.part v) := by
  obtain ⟨h1, h2, h3, h4⟩ := h
  unfold Dec.part
  by_cases hx : v ≤ x.off
  · rw [if_pos hx, if_pos (by omega)]
    exact ⟨h1, h2, by simp only; omega, by simp only; omega⟩
  · rw [if_neg hx, if_neg (by omega)]
    exact ⟨h1, h2, by simp only; omega, rfl⟩
theorem DecSim.step {d x : Dec} (h : DecSim d x) (hr : x.r < 16777216) : DecSim d.step x.rstep := by
  obtain ⟨h1, h2, h3, h4⟩ := h
  have hb := byteAt_lt x.bs x.at_
  exact ⟨h1, by simp only [Dec.step, Dec.rstep, h2], by simp only [Dec.step, Dec.rstep, h1, h2, h3, h4]; omega, by simp only [Dec.step, Dec.rstep, h4]⟩
theorem DecSim.norm (k : Nat) : ∀ {d x : Dec}, DecSim d x → DecSim (Dec.norm k d) (Dec.rnorm k x) := by
  induction k with
  | zero => intro d x h; exact h
  | succ k ih =>
    intro d x h
    rw [Dec.norm, Dec.rnorm, h.r]
    split
    · rename_i hlt
      exact ih (h.step hlt)
    · exact h
theorem DecSim.narrow {d x : Dec} (h : DecSim d x) (v : Nat) (hv : v < x.r) : DecSim (d.narrow v) (x.rnarrow v) := DecSim.norm 3 (h.part v hv)
theorem DecSim.new (bs : List UInt8) : DecSim (Dec.new bs) (Dec.rnew bs) := by
  have h0 := byteAt_lt bs 0
  have h1 := byteAt_lt bs 1
  have h2 := byteAt_lt bs 2
  have h3 := byteAt_lt bs 3
  refine ⟨rfl, rfl, ?_, rfl⟩
  simp only [Dec.new, Dec.rnew, Dec.rnext, pre, Nat.zero_add, Nat.zero_mul, Nat.reduceAdd]
  omega

/-! ### Two machines that go alike -/
structure Alike {σ τ : Type} (M : Mach σ) (N : Mach τ) (R : σ → τ → Prop) : Prop where
  bit : ∀ s t c u, R s t → c < 64 → (M.bit s c u).1 = (N.bit t c u).1 ∧ R (M.bit s c u).2 (N.bit t c u).2
  flat : ∀ s t u, R s t → (M.flat s u).1 = (N.flat t u).1 ∧ R (M.flat s u).2 (N.flat t u).2
section
variable {σ τ : Type} {M : Mach σ} {N : Mach τ} {R : σ → τ → Prop}
theorem Alike.any (H : Alike M N R) {s : σ} {t : τ} (h : R s t) (c : Int) (u : Bool) : (M.anyBit s c u).1 = (N.anyBit t c u).1 ∧ R (M.anyBit s c u).2 (N.anyBit t c u).2 := by
  unfold Mach.anyBit
  split
  · exact H.bit s t _ u h (by omega)
  · exact H.flat s t u h
theorem Alike.ones (H : Alike M N R) {f : Nat → Nat} (hf : ∀ n, f n < 64) (v v' : Int) (top : Nat) (hv : ∀ n : Nat, n < top → decide ((n : Int) < v) = decide ((n : Int) < v')) :
    ∀ (k n : Nat) (s : σ) (t : τ), n + k ≤ top → R s t → (M.ones f v k n s).1 = (N.ones f v' k n t).1 ∧ R (M.ones f v k n s).2 (N.ones f v' k n t).2 := by
  intro k
  induction k with
  | zero => intro n s t _ h; exact ⟨rfl, h⟩
  | succ k ih =>
    intro n s t hn h
    have hb := H.bit s t (f n) (decide ((n : Int) < v')) h (hf n)
    simp only [Mach.ones]
    rw [hv n (by omega), hb.1]
    split
    · exact ih (n + 1) _ _ (by omega) hb.2
    · exact ⟨rfl, hb.2⟩
theorem Alike.kind (H : Alike M N R) {s : σ} {t : τ} (h : R s t) (k k' : Int) (hk : ∀ n : Nat, n < 3 → decide ((n : Int) < k) = decide ((n : Int) < k')) : (M.kind k s).1 = (N.kind k' t).1 ∧ R (M.kind k s).2 (N.kind k' t).2 := by
  have := H.ones (f := fun n => if n < 64 then n else 0) (fun n => by split <;> omega) k k' 3 hk 3 0 s t (by omega) h
  have e : ∀ {σ : Type} (M : Mach σ) (v : Int) (s : σ), M.ones (fun n => if n < 64 then n else 0) v 3 0 s = M.ones (fun n => n) v 3 0 s := fun M v s => rfl
  rw [e, e] at this
  unfold Mach.kind
  exact ⟨by simp only [this.1], this.2⟩
theorem Alike.mode (H : Alike M N R) {s : σ} {t : τ} (h : R s t) (m : Int) : (M.mode m s).1 = (N.mode m t).1 ∧ R (M.mode m s).2 (N.mode m t).2 := by
  have h1 := H.bit s t 3 (decide (1 < cut m 0 3)) h (by omega)
  unfold Mach.mode
  simp only
  rw [h1.1]
  have h2 := H.bit _ _ (if (N.bit t 3 (decide (1 < cut m 0 3))).1 then 5 else 4) (decide (cut m 0 3 % 2 = 1)) h1.2 (by split <;> omega)
  rw [h2.1]
  exact ⟨rfl, h2.2⟩
theorem Alike.part (H : Alike M N R) {s : σ} {t : τ} (h : R s t) (v : Int) : (M.part v s).1 = (N.part v t).1 ∧ R (M.part v s).2 (N.part v t).2 := by
  have h1 := H.bit s t 6 (decide (cut v (-15) 15 ≠ 0)) h (by omega)
  unfold Mach.part
  simp only
  rw [h1.1]
  split
  · have h2 := H.flat _ _ (decide (cut v (-15) 15 < 0)) h1.2
    have h3 := H.ones (f := fun n => 7 + min n 6) (fun n => by omega) (max (cut v (-15) 15) (-(cut v (-15) 15)) - 1) _ 14 (fun _ _ => rfl) 14 0 _ _ (by omega) h2.2
    rw [h2.1, h3.1]
    exact ⟨rfl, h3.2⟩
  · exact ⟨rfl, h1.2⟩
end

structure WrSim (s : Wr) (x : XWr) : Prop where
  P : s.P = x.P
  e : EncSim s.e x.e
  ok : POk s.P
  r0 : 16777216 ≤ s.e.r
  r1 : s.e.r ≤ 4294967295
  low : s.e.low ≤ 4294967295
structure RdSim (s : Rd) (x : XRd) : Prop where
  P : s.P = x.P
  d : DecSim s.d x.d
  ok : POk s.P
  r0 : 16777216 ≤ s.d.r
  r1 : s.d.r ≤ 4294967295
  off : s.d.off ≤ s.d.r

theorem wr_alike : Alike wrM xwM WrSim where
  bit := by
    rintro s t c u ⟨hP, he, ok, r0, r1, low⟩ hc
    have hs := share_ok (p := s.P.getD c 0) r0 (by have := ok.lo _ hc; omega) (by have := ok.hi _ hc; omega)
    have hk := Enc.narrow_ok (e := s.e) (lim := s.e.out.length) ⟨r0, r1, low, Nat.le_refl _⟩ hs.1 hs.2 u
    refine ⟨rfl, ⟨?_, ?_, ok.learn _ hc _, hk.r0, hk.r1, hk.low⟩⟩
    · show learnAt s.P c u = learnAt t.P c u
      rw [hP]
    · show EncSim (s.e.narrow (s.e.r / 2048 * s.P.getD c 0) u) (t.e.narrow (t.e.R / 2048 * t.P.getD c 0) u)
      rw [← hP, he.R]
      exact he.narrow low r1 _ hs.2 u
  flat := by
    rintro s t u ⟨hP, he, ok, r0, r1, low⟩
    have hs := half_ok r0
    have hk := Enc.narrow_ok (e := s.e) (lim := s.e.out.length) ⟨r0, r1, low, Nat.le_refl _⟩ hs.1 hs.2 u
    refine ⟨rfl, ⟨hP, ?_, ok, hk.r0, hk.r1, hk.low⟩⟩
    show EncSim (s.e.narrow (s.e.r / 2) u) (t.e.narrow (t.e.R / 2) u)
    rw [he.R]
    exact he.narrow low r1 _ hs.2 u
theorem rd_alike : Alike rdM xrM RdSim where
  bit := by
    rintro s t c u ⟨hP, hd, ok, r0, r1, off⟩ hc
    have hs := share_ok (p := s.P.getD c 0) r0 (by have := ok.lo _ hc; omega) (by have := ok.hi _ hc; omega)
    have hk := (Dec.narrow_ok (d := s.d) (lim := s.d.at_) ⟨r0, r1, off, Nat.le_refl _⟩ hs.1 hs.2).1
    have hb : s.d.bit (s.d.r / 2048 * s.P.getD c 0) = t.d.bit (t.d.r / 2048 * t.P.getD c 0) := by
      rw [← hP, ← hd.r]
      exact hd.bit _ (by rw [← hd.r]; exact hs.2)
    refine ⟨hb, ⟨?_, ?_, ok.learn _ hc _, hk.r0, hk.r1, hk.off⟩⟩
    · show learnAt s.P c (s.d.bit (s.d.r / 2048 * s.P.getD c 0)) = learnAt t.P c (t.d.bit (t.d.r / 2048 * t.P.getD c 0))
      rw [hb, hP]
    · show DecSim (s.d.narrow (s.d.r / 2048 * s.P.getD c 0)) (t.d.rnarrow (t.d.r / 2048 * t.P.getD c 0))
      rw [← hP, ← hd.r]
      exact hd.narrow _ (by rw [← hd.r]; exact hs.2)
  flat := by
    rintro s t u ⟨hP, hd, ok, r0, r1, off⟩
    have hs := half_ok r0
    have hk := (Dec.narrow_ok (d := s.d) (lim := s.d.at_) ⟨r0, r1, off, Nat.le_refl _⟩ hs.1 hs.2).1
    refine ⟨?_, ⟨hP, ?_, ok, hk.r0, hk.r1, hk.off⟩⟩
    · show s.d.bit (s.d.r / 2) = t.d.bit (t.d.r / 2)
      rw [← hd.r]
      exact hd.bit _ (by rw [← hd.r]; exact hs.2)
    · show DecSim (s.d.narrow (s.d.r / 2)) (t.d.rnarrow (t.d.r / 2))
      rw [← hd.r]
      exact hd.narrow _ (by rw [← hd.r]; exact hs.2)
end Go.Proofs.YtkkgpdejmcpcpaaGreatDoor

