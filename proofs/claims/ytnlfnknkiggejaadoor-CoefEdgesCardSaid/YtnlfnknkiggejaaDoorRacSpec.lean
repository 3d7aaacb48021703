/- Plain words: the range coder's states and steps, with no program in sight. -/
namespace Go.Proofs.YtnlfnknkiggejaaDoor

/-- A decoder: its bytes, how many it has asked, the number less the low, the width. -/
structure Dec where
  bs : List UInt8
  at_ : Nat
  off : Nat
  r : Nat

def byteAt (bs : List UInt8) (k : Nat) : Nat := (bs.getD k 0).toNat
theorem byteAt_lt (bs : List UInt8) (k : Nat) : byteAt bs k < 256 := (bs.getD k 0).toNat_lt
theorem byteAt_past (bs : List UInt8) (k : Nat) (h : bs.length ≤ k) : byteAt bs k = 0 := by
  unfold byteAt; rw [List.getD_eq_getElem?_getD, List.getElem?_eq_none h]; rfl

def Dec.step (d : Dec) : Dec := ⟨d.bs, d.at_ + 1, min (d.off * 256 + byteAt d.bs d.at_) (d.r * 256), d.r * 256⟩
def Dec.norm : Nat → Dec → Dec
  | 0, d => d
  | f + 1, d => if d.r < 16777216 then Dec.norm f d.step else d
def Dec.part (d : Dec) (v : Nat) : Dec := if v ≤ d.off then ⟨d.bs, d.at_, d.off - v, d.r - v⟩ else ⟨d.bs, d.at_, d.off, v⟩
def Dec.bit (d : Dec) (v : Nat) : Bool := decide (v ≤ d.off)
def Dec.narrow (d : Dec) (v : Nat) : Dec := Dec.norm 3 (d.part v)

/-- The number that the first bytes are, the highest first. -/
def pre (bs : List UInt8) : Nat → Nat
  | 0 => 0
  | i + 1 => pre bs i * 256 + byteAt bs i
def Dec.new (bs : List UInt8) : Dec := ⟨bs, 4, pre bs 4, 4294967295⟩
theorem pre_lt (bs : List UInt8) (i : Nat) (h : i ≤ 4) : pre bs i < 4294967296 := by
  have h0 := byteAt_lt bs 0
  have h1 := byteAt_lt bs 1
  have h2 := byteAt_lt bs 2
  have h3 := byteAt_lt bs 3
  match i, h with
  | 0, _ => simp only [pre]; omega
  | 1, _ => simp only [pre]; omega
  | 2, _ => simp only [pre]; omega
  | 3, _ => simp only [pre]; omega
  | 4, _ => simp only [pre]; omega

/-- What holds of a decoder between calls. -/
structure Dec.Ok (d : Dec) (lim : Nat) : Prop where
  r0 : 16777216 ≤ d.r
  r1 : d.r ≤ 4294967295
  off : d.off ≤ d.r
  at_ : d.at_ ≤ lim

/-- An encoder: its settled bytes, the low's last four, the width. -/
structure Enc where
  out : List UInt8
  low : Nat
  r : Nat

/-- One more, from the last byte on, as long as it comes round to 0: 'rev' has the last byte first. -/
def carryRev : List UInt8 → List UInt8
  | [] => []
  | x :: l => if x + 1 = 0 then (x + 1) :: carryRev l else (x + 1) :: l
def carry (out : List UInt8) : List UInt8 := (carryRev out.reverse).reverse

def Enc.step (e : Enc) : Enc := ⟨e.out ++ [UInt8.ofNat (e.low / 16777216)], e.low * 256 % 4294967296, e.r * 256⟩
def Enc.norm : Nat → Enc → Enc
  | 0, e => e
  | f + 1, e => if e.r < 16777216 then Enc.norm f e.step else e
def Enc.part (e : Enc) (v : Nat) (b : Bool) : Enc :=
  if b then (if 4294967295 < e.low + v then ⟨carry e.out, e.low + v - 4294967296, e.r - v⟩ else ⟨e.out, e.low + v, e.r - v⟩) else ⟨e.out, e.low, v⟩
def Enc.narrow (e : Enc) (v : Nat) (b : Bool) : Enc := Enc.norm 3 (e.part v b)

/-- The low's last four bytes. -/
def four (low : Nat) : List UInt8 := [UInt8.ofNat (low / 16777216), UInt8.ofNat (low / 65536), UInt8.ofNat (low / 256), UInt8.ofNat low]
def trimRev : List UInt8 → List UInt8
  | [] => []
  | x :: l => if x = 0 then trimRev l else x :: l
/-- Without the zeros at the end. -/
def trim (l : List UInt8) : List UInt8 := (trimRev l.reverse).reverse
def Enc.bytes (e : Enc) : List UInt8 := trim (e.out ++ four e.low)

structure Enc.Ok (e : Enc) (lim : Nat) : Prop where
  r0 : 16777216 ≤ e.r
  r1 : e.r ≤ 4294967295
  low : e.low ≤ 4294967295
  len : e.out.length ≤ lim
end Go.Proofs.YtnlfnknkiggejaaDoor
