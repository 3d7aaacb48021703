/- Parts: XRacSpec, XRefSpec, XModSpec, XRacFacts. -/

/- Plain words: the range coder's states and steps, with no program in sight. -/
namespace Go.Proofs.YtkkgpdejmcpcpaaGreatDoor

/-- A decoder: its bytes, how many it has asked, the number less the low, the width. -/
structure Dec where
  bs : List UInt8
  at_ : Nat
  off : Nat
  r : Nat

def byteAt (bs : List UInt8) (k : Nat) : Nat := (bs.getD k 0).toNat
theorem byteAt_lt (bs : List UInt8) (k : Nat) : byteAt bs k < 256 := (bs.getD k 0).toNat_lt
theorem byteAt_past (bs : List UInt8) (k : Nat) (h : bs.length ≤ k) : byteAt bs k = 0 := by
  unfold byteAt; rw [List.getD_eq_getElem?_getD, List.getElem?_eq_none h]; rfl

def Dec.step (d : Dec) : Dec := ⟨d.bs, d.at_ + 1, min (d.off * 256 + byteAt d.bs d.at_) (d.r * 256), d.r * 256⟩
def Dec.norm : Nat → Dec → Dec
  | 0, d => d
  | f + 1, d => if d.r < 16777216 then Dec.norm f d.step else d
def Dec.part (d : Dec) (v : Nat) : Dec := if v ≤ d.off then ⟨d.bs, d.at_, d.off - v, d.r - v⟩ else ⟨d.bs, d.at_, d.off, v⟩
def Dec.bit (d : Dec) (v : Nat) : Bool := decide (v ≤ d.off)
def Dec.narrow (d : Dec) (v : Nat) : Dec := Dec.norm 3 (d.part v)

/-- The number that the first bytes are, the highest first. -/
def pre (bs : List UInt8) : Nat → Nat
  | 0 => 0
  | i + 1 => pre bs i * 256 + byteAt bs i
def Dec.new (bs : List UInt8) : Dec := ⟨bs, 4, pre bs 4, 4294967295⟩
theorem pre_lt (bs : List UInt8) (i : Nat) (h : i ≤ 4) : pre bs i < 4294967296 := by
  have h0 := byteAt_lt bs 0
  have h1 := byteAt_lt bs 1
  have h2 := byteAt_lt bs 2
  have h3 := byteAt_lt bs 3
  match i, h with
  | 0, _ => simp only [pre]; omega
  | 1, _ => simp only [pre]; omega
  | 2, _ => simp only [pre]; omega
  | 3, _ => simp only [pre]; omega
  | 4, _ => simp only [pre]; omega

/-- What holds of a decoder between calls. -/
structure Dec.Ok (d : Dec) (lim : Nat) : Prop where
  r0 : 16777216 ≤ d.r
  r1 : d.r ≤ 4294967295
  off : d.off ≤ d.r
  at_ : d.at_ ≤ lim

/-- An encoder: its settled bytes, the low's last four, the width. -/
structure Enc where
  out : List UInt8
  low : Nat
  r : Nat

/-- One more, from the last byte on, as long as it comes round to 0: 'rev' has the last byte first. -/
def carryRev : List UInt8 → List UInt8
  | [] => []
  | x :: l => if x + 1 = 0 then (x + 1) :: carryRev l else (x + 1) :: l
def carry (out : List UInt8) : List UInt8 := (carryRev out.reverse).reverse

def Enc.step (e : Enc) : Enc := ⟨e.out ++ [UInt8.ofNat (e.low / 16777216)], e.low * 256 % 4294967296, e.r * 256⟩
def Enc.norm : Nat → Enc → Enc
  | 0, e => e
  | f + 1, e => if e.r < 16777216 then Enc.norm f e.step else e
def Enc.part (e : Enc) (v : Nat) (b : Bool) : Enc :=
  if b then (if 4294967295 < e.low + v then ⟨carry e.out, e.low + v - 4294967296, e.r - v⟩ else ⟨e.out, e.low + v, e.r - v⟩) else ⟨e.out, e.low, v⟩
def Enc.narrow (e : Enc) (v : Nat) (b : Bool) : Enc := Enc.norm 3 (e.part v b)

/-- The low's last four bytes. -/
def four (low : Nat) : List UInt8 := [UInt8.ofNat (low / 16777216), UInt8.ofNat (low / 65536), UInt8.ofNat (low / 256), UInt8.ofNat low]
def trimRev : List UInt8 → List UInt8
  | [] => []
  | x :: l => if x = 0 then trimRev l else x :: l
/-- Without the zeros at the end. -/
def trim (l : List UInt8) : List UInt8 := (trimRev l.reverse).reverse
def Enc.bytes (e : Enc) : List UInt8 := trim (e.out ++ four e.low)

structure Enc.Ok (e : Enc) (lim : Nat) : Prop where
  r0 : 16777216 ≤ e.r
  r1 : e.r ≤ 4294967295
  low : e.low ≤ 4294967295
  len : e.out.length ≤ lim
end Go.Proofs.YtkkgpdejmcpcpaaGreatDoor

/- Plain words: the document's range coder. -/
namespace Go.Proofs.YtkkgpdejmcpcpaaGreatDoor

/-- The document's decoder, in the same four words (off: its number less the low, at most 2^40). -/
def Dec.rnext (d : Dec) : Dec := ⟨d.bs, d.at_ + 1, min (d.off * 256 + byteAt d.bs d.at_) 1099511627776, d.r⟩
def Dec.rstep (d : Dec) : Dec := ⟨d.bs, d.at_ + 1, min (d.off * 256 + byteAt d.bs d.at_) 1099511627776, d.r * 256⟩
def Dec.rnorm : Nat → Dec → Dec
  | 0, d => d
  | f + 1, d => if d.r < 16777216 then Dec.rnorm f d.rstep else d
def Dec.rnarrow (d : Dec) (v : Nat) : Dec := Dec.rnorm 3 (d.part v)
def Dec.rnew (bs : List UInt8) : Dec := Dec.rnext (Dec.rnext (Dec.rnext (Dec.rnext ⟨bs, 0, 0, 4294967295⟩)))

structure Dec.ROk (d : Dec) (lim : Nat) : Prop where
  r0 : 16777216 ≤ d.r
  r1 : d.r ≤ 4294967295
  off : d.off ≤ 1099511627776
  at_ : d.at_ ≤ lim

/-- The document's encoder. -/
structure REnc where
  L : List UInt8
  R : Nat
def addRev : List UInt8 → Nat → List UInt8
  | [], _ => []
  | x :: l, v => if v = 0 then x :: l else UInt8.ofNat (v + x.toNat) :: addRev l ((v + x.toNat) / 256)
def addL (l : List UInt8) (v : Nat) : List UInt8 := (addRev l.reverse v).reverse
def REnc.step (e : REnc) : REnc := ⟨e.L ++ [0], e.R * 256⟩
def REnc.norm : Nat → REnc → REnc
  | 0, e => e
  | f + 1, e => if e.R < 16777216 then REnc.norm f e.step else e
def REnc.part (e : REnc) (v : Nat) (b : Bool) : REnc := if b then ⟨addL e.L v, e.R - v⟩ else ⟨e.L, v⟩
def REnc.narrow (e : REnc) (v : Nat) (b : Bool) : REnc := REnc.norm 3 (e.part v b)
def REnc.new : REnc := ⟨[0, 0, 0, 0], 4294967295⟩
def REnc.bytes (e : REnc) : List UInt8 := trim e.L

structure REnc.Ok (e : REnc) (lim : Nat) : Prop where
  r0 : 16777216 ≤ e.R
  r1 : e.R ≤ 4294967295
  len : e.L.length ≤ lim
end Go.Proofs.YtkkgpdejmcpcpaaGreatDoor

/- Plain words: bits that learn. -/
namespace Go.Proofs.YtkkgpdejmcpcpaaGreatDoor

def learnP (p : Nat) (b : Bool) : Nat := if b then p - p / 32 else p + (2048 - p) / 32
def learnAt (P : List Nat) (c : Nat) (b : Bool) : List Nat := P.set c (learnP (P.getD c 0) b)
/-- Chances that may be. -/
structure POk (P : List Nat) : Prop where
  len : P.length = 64
  lo : ∀ c, c < 64 → 31 ≤ P.getD c 0
  hi : ∀ c, c < 64 → P.getD c 0 ≤ 2017
theorem learnP_ok {p : Nat} (h1 : 31 ≤ p) (h2 : p ≤ 2017) (b : Bool) : 31 ≤ learnP p b ∧ learnP p b ≤ 2017 := by
  cases b <;> simp only [learnP] <;> simp <;> omega
theorem POk.learn {P : List Nat} (h : POk P) (c : Nat) (hc : c < 64) (b : Bool) : POk (learnAt P c b) := by
  have hl := h.len
  have hg : ∀ i, i < 64 → (learnAt P c b).getD i 0 = if c = i then learnP (P.getD c 0) b else P.getD i 0 := by
    intro i hi
    unfold learnAt
    rw [List.getD_eq_getElem?_getD, List.getElem?_set]
    split
    · rename_i e
      subst e
      simp [show c < P.length by omega]
    · rw [List.getD_eq_getElem?_getD]
  refine ⟨by simp [learnAt, hl], fun i hi => ?_, fun i hi => ?_⟩
  · rw [hg i hi]
    split
    · exact (learnP_ok (h.lo c hc) (h.hi c hc) b).1
    · exact h.lo i hi
  · rw [hg i hi]
    split
    · exact (learnP_ok (h.lo c hc) (h.hi c hc) b).2
    · exact h.hi i hi

/-- A machine that codes bits, or tells them. -/
structure Mach (σ : Type) where
  bit : σ → Nat → Bool → Bool × σ
  flat : σ → Bool → Bool × σ

/-- The writer. -/
structure Wr where
  P : List Nat
  e : Enc
def Wr.bit (s : Wr) (c : Nat) (b : Bool) : Bool × Wr := (b, ⟨learnAt s.P c b, s.e.narrow (s.e.r / 2048 * s.P.getD c 0) b⟩)
def Wr.flat (s : Wr) (b : Bool) : Bool × Wr := (b, ⟨s.P, s.e.narrow (s.e.r / 2) b⟩)
def wrM : Mach Wr := ⟨Wr.bit, Wr.flat⟩

/-- The reader. -/
structure Rd where
  P : List Nat
  d : Dec
def Rd.bit (s : Rd) (c : Nat) (_b : Bool) : Bool × Rd :=
  (s.d.bit (s.d.r / 2048 * s.P.getD c 0), ⟨learnAt s.P c (s.d.bit (s.d.r / 2048 * s.P.getD c 0)), s.d.narrow (s.d.r / 2048 * s.P.getD c 0)⟩)
def Rd.flat (s : Rd) (_b : Bool) : Bool × Rd := (s.d.bit (s.d.r / 2), ⟨s.P, s.d.narrow (s.d.r / 2)⟩)
def rdM : Mach Rd := ⟨Rd.bit, Rd.flat⟩

/-- The document's coder, as a writer and as a reader. -/
structure XWr where
  P : List Nat
  e : REnc
def XWr.bit (s : XWr) (c : Nat) (b : Bool) : Bool × XWr := (b, ⟨learnAt s.P c b, s.e.narrow (s.e.R / 2048 * s.P.getD c 0) b⟩)
def XWr.flat (s : XWr) (b : Bool) : Bool × XWr := (b, ⟨s.P, s.e.narrow (s.e.R / 2) b⟩)
def xwM : Mach XWr := ⟨XWr.bit, XWr.flat⟩
structure XRd where
  P : List Nat
  d : Dec
def XRd.bit (s : XRd) (c : Nat) (_b : Bool) : Bool × XRd :=
  (s.d.bit (s.d.r / 2048 * s.P.getD c 0), ⟨learnAt s.P c (s.d.bit (s.d.r / 2048 * s.P.getD c 0)), s.d.rnarrow (s.d.r / 2048 * s.P.getD c 0)⟩)
def XRd.flat (s : XRd) (_b : Bool) : Bool × XRd := (s.d.bit (s.d.r / 2), ⟨s.P, s.d.rnarrow (s.d.r / 2)⟩)
def xrM : Mach XRd := ⟨XRd.bit, XRd.flat⟩

/-- Bit with whatever context: outside 0 to 63 the chances are even. -/
def Mach.anyBit {σ : Type} (M : Mach σ) (s : σ) (c : Int) (b : Bool) : Bool × σ := if 0 ≤ c ∧ c < 64 then M.bit s c.toNat b else M.flat s b

/-- Ones and a nought: n of them so far, k at most to come; the context is f of how many. -/
def Mach.ones {σ : Type} (M : Mach σ) (f : Nat → Nat) (v : Int) : Nat → Nat → σ → Nat × σ
  | 0, n, s => (n, s)
  | k + 1, n, s => if (M.bit s (f n) (decide ((n : Int) < v))).1 then M.ones f v k (n + 1) (M.bit s (f n) (decide ((n : Int) < v))).2 else (n, (M.bit s (f n) (decide ((n : Int) < v))).2)
def Mach.kind {σ : Type} (M : Mach σ) (k : Int) (s : σ) : Int × σ := ((M.ones (fun n => n) k 3 0 s).1, (M.ones (fun n => n) k 3 0 s).2)
def cut (v lo hi : Int) : Int := min (max v lo) hi
def Mach.mode {σ : Type} (M : Mach σ) (m : Int) (s : σ) : Int × σ :=
  let a := M.bit s 3 (decide (1 < cut m 0 3))
  let b := M.bit a.2 (if a.1 then 5 else 4) (decide (cut m 0 3 % 2 = 1))
  ((if a.1 then 2 else 0) + (if b.1 then 1 else 0), b.2)
def Mach.part {σ : Type} (M : Mach σ) (v : Int) (s : σ) : Int × σ :=
  let a := M.bit s 6 (decide (cut v (-15) 15 ≠ 0))
  if a.1 then
    let d := M.flat a.2 (decide (cut v (-15) 15 < 0))
    let n := M.ones (fun n => 7 + min n 6) (max (cut v (-15) 15) (-(cut v (-15) 15)) - 1) 14 0 d.2
    (if d.1 then -(n.1 : Int) - 1 else (n.1 : Int) + 1, n.2)
  else (0, a.2)
end Go.Proofs.YtkkgpdejmcpcpaaGreatDoor

/- Plain laws: the range coder's bounds are kept. -/
namespace Go.Proofs.YtkkgpdejmcpcpaaGreatDoor

def lowQ : Nat → Nat
  | 0 => 16777216
  | 1 => 65536
  | 2 => 256
  | _ => 1
theorem lowQ_next {k r : Nat} (h : lowQ (k + 1) ≤ r) : lowQ k ≤ r * 256 := by
  match k, h with
  | 0, h => simp only [lowQ] at *; omega
  | 1, h => simp only [lowQ] at *; omega
  | 2, h => simp only [lowQ] at *; omega
  | k + 3, h => simp only [lowQ] at *; omega

theorem Dec.norm_ok (k : Nat) : ∀ (d : Dec) (lim : Nat), lowQ k ≤ d.r → d.r ≤ 4294967295 → d.off ≤ d.r → d.at_ ≤ lim → (Dec.norm k d).Ok (lim + k) ∧ (Dec.norm k d).bs = d.bs := by
  induction k with
  | zero => intro d lim h1 h2 h3 h4; exact ⟨⟨h1, h2, h3, h4⟩, rfl⟩
  | succ k ih =>
    intro d lim h1 h2 h3 h4
    rw [Dec.norm]
    split
    · rename_i hlt
      have := ih d.step (lim + 1) (lowQ_next h1) (by show d.r * 256 ≤ _; omega) (by show min _ (d.r * 256) ≤ d.r * 256; omega) (by show d.at_ + 1 ≤ _; omega)
      rw [show lim + (k + 1) = lim + 1 + k by omega]
      exact this
    · exact ⟨⟨by omega, h2, h3, by omega⟩, rfl⟩
theorem Dec.narrow_ok {d : Dec} {lim v : Nat} (h : d.Ok lim) (h1 : 1 ≤ v) (h2 : v < d.r) : (d.narrow v).Ok (lim + 3) ∧ (d.narrow v).bs = d.bs := by
  obtain ⟨r0, r1, ho, ha⟩ := h
  unfold Dec.narrow
  have hb : (d.part v).bs = d.bs := by unfold Dec.part; split <;> rfl
  rw [← hb]
  refine Dec.norm_ok 3 _ lim ?_ ?_ ?_ ?_ <;> unfold Dec.part <;> split <;> simp only [lowQ] <;> omega
theorem Dec.rnorm_ok (k : Nat) : ∀ (d : Dec) (lim : Nat), lowQ k ≤ d.r → d.r ≤ 4294967295 → d.off ≤ 1099511627776 → d.at_ ≤ lim → (Dec.rnorm k d).ROk (lim + k) ∧ (Dec.rnorm k d).bs = d.bs := by
  induction k with
  | zero => intro d lim h1 h2 h3 h4; exact ⟨⟨h1, h2, h3, h4⟩, rfl⟩
  | succ k ih =>
    intro d lim h1 h2 h3 h4
    rw [Dec.rnorm]
    split
    · rename_i hlt
      have := ih d.rstep (lim + 1) (lowQ_next h1) (by show d.r * 256 ≤ _; omega) (by show min _ 1099511627776 ≤ _; omega) (by show d.at_ + 1 ≤ _; omega)
      rw [show lim + (k + 1) = lim + 1 + k by omega]
      exact this
    · exact ⟨⟨by omega, h2, h3, by omega⟩, rfl⟩
theorem Dec.rnarrow_ok {d : Dec} {lim v : Nat} (h : d.ROk lim) (h1 : 1 ≤ v) (h2 : v < d.r) : (d.rnarrow v).ROk (lim + 3) ∧ (d.rnarrow v).bs = d.bs := by
  obtain ⟨r0, r1, ho, ha⟩ := h
  unfold Dec.rnarrow
  have hb : (d.part v).bs = d.bs := by unfold Dec.part; split <;> rfl
  rw [← hb]
  refine Dec.rnorm_ok 3 _ lim ?_ ?_ ?_ ?_ <;> unfold Dec.part <;> split <;> simp only [lowQ] <;> omega

theorem carryRev_len (l : List UInt8) : (carryRev l).length = l.length := by
  induction l with
  | nil => rfl
  | cons x l ih => simp only [carryRev]; split <;> simp [ih]
theorem carry_len (l : List UInt8) : (carry l).length = l.length := by unfold carry; rw [List.length_reverse, carryRev_len, List.length_reverse]
theorem addRev_len (l : List UInt8) (v : Nat) : (addRev l v).length = l.length := by
  induction l generalizing v with
  | nil => rfl
  | cons x l ih => simp only [addRev]; split <;> simp [ih]
theorem addL_len (l : List UInt8) (v : Nat) : (addL l v).length = l.length := by unfold addL; rw [List.length_reverse, addRev_len, List.length_reverse]

theorem Enc.norm_ok (k : Nat) : ∀ (e : Enc) (lim : Nat), lowQ k ≤ e.r → e.r ≤ 4294967295 → e.low ≤ 4294967295 → e.out.length ≤ lim → (Enc.norm k e).Ok (lim + k) := by
  induction k with
  | zero => intro e lim h1 h2 h3 h4; exact ⟨h1, h2, h3, h4⟩
  | succ k ih =>
    intro e lim h1 h2 h3 h4
    rw [Enc.norm]
    split
    · rename_i hlt
      have := ih e.step (lim + 1) (lowQ_next h1) (by show e.r * 256 ≤ _; omega) (by show e.low * 256 % 4294967296 ≤ _; omega) (by show (e.out ++ [_]).length ≤ _; simp; omega)
      rw [show lim + (k + 1) = lim + 1 + k by omega]
      exact this
    · exact ⟨by omega, h2, h3, by omega⟩
theorem Enc.narrow_ok {e : Enc} {lim v : Nat} (h : e.Ok lim) (h1 : 1 ≤ v) (h2 : v < e.r) (b : Bool) : (e.narrow v b).Ok (lim + 3) := by
  obtain ⟨r0, r1, ho, ha⟩ := h
  unfold Enc.narrow
  have hc := carry_len e.out
  refine Enc.norm_ok 3 _ lim ?_ ?_ ?_ ?_ <;> unfold Enc.part <;> cases b <;> simp only [lowQ, if_true, Bool.false_eq_true, if_false] <;> (try split) <;> (try simp only) <;> omega
theorem REnc.norm_ok (k : Nat) : ∀ (e : REnc) (lim : Nat), lowQ k ≤ e.R → e.R ≤ 4294967295 → e.L.length ≤ lim → (REnc.norm k e).Ok (lim + k) := by
  induction k with
  | zero => intro e lim h1 h2 h4; exact ⟨h1, h2, h4⟩
  | succ k ih =>
    intro e lim h1 h2 h4
    rw [REnc.norm]
    split
    · rename_i hlt
      have := ih e.step (lim + 1) (lowQ_next h1) (by show e.R * 256 ≤ _; omega) (by show (e.L ++ [_]).length ≤ _; simp; omega)
      rw [show lim + (k + 1) = lim + 1 + k by omega]
      exact this
    · exact ⟨by omega, h2, by omega⟩
theorem REnc.narrow_ok {e : REnc} {lim v : Nat} (h : e.Ok lim) (h1 : 1 ≤ v) (h2 : v < e.R) (b : Bool) : (e.narrow v b).Ok (lim + 3) := by
  obtain ⟨r0, r1, ha⟩ := h
  unfold REnc.narrow
  have hc := addL_len e.L v
  refine REnc.norm_ok 3 _ lim ?_ ?_ ?_ <;> unfold REnc.part <;> cases b <;> simp only [lowQ, if_true, Bool.false_eq_true, if_false] <;> omega

theorem share_ok {r p : Nat} (h0 : 16777216 ≤ r) (h1 : 1 ≤ p) (h2 : p ≤ 2047) : 1 ≤ r / 2048 * p ∧ r / 2048 * p < r := by
  have hq : 8192 ≤ r / 2048 := by omega
  constructor
  · exact Nat.mul_pos (by omega) h1
  · have : r / 2048 * p ≤ r / 2048 * 2047 := Nat.mul_le_mul_left _ h2
    omega
theorem half_ok {r : Nat} (h0 : 16777216 ≤ r) : 1 ≤ r / 2 ∧ r / 2 < r := by omega

theorem Mach.anyBit_nat {σ : Type} (M : Mach σ) (s : σ) (c : Nat) (b : Bool) (h : c < 64) : M.anyBit s (c : Int) b = M.bit s c b := by
  unfold Mach.anyBit
  rw [if_pos (by omega)]
  rfl
end Go.Proofs.YtkkgpdejmcpcpaaGreatDoor

