/- Plain words: the document's range coder. -/
import Derived.Test.YtnlfnknkiggejaaDoorRacSpec
namespace Go.Proofs.YtnlfnknkiggejaaDoor

/-- The document's decoder, in the same four words (off: its number less the low, at most 2^40). -/
def Dec.rnext (d : Dec) : Dec := ⟨d.bs, d.at_ + 1, min (d.off * 256 + byteAt d.bs d.at_) 1099511627776, d.r⟩
def Dec.rstep (d : Dec) : Dec := ⟨d.bs, d.at_ + 1, min (d.off * 256 + byteAt d.bs d.at_) 1099511627776, d.r * 256⟩
def Dec.rnorm : Nat → Dec → Dec
  | 0, d => d
  | f + 1, d => if d.r < 16777216 then Dec.rnorm f d.rstep else d
def Dec.rnarrow (d : Dec) (v : Nat) : Dec := Dec.rnorm 3 (d.part v)
def Dec.rnew (bs : List UInt8) : Dec := Dec.rnext (Dec.rnext (Dec.rnext (Dec.rnext ⟨bs, 0, 0, 4294967295⟩)))

structure Dec.ROk (d : Dec) (lim : Nat) : Prop where
  r0 : 16777216 ≤ d.r
  r1 : d.r ≤ 4294967295
  off : d.off ≤ 1099511627776
  at_ : d.at_ ≤ lim

/-- The document's encoder. -/
structure REnc where
  L : List UInt8
  R : Nat
def addRev : List UInt8 → Nat → List UInt8
  | [], _ => []
  | x :: l, v => if v = 0 then x :: l else UInt8.ofNat (v + x.toNat) :: addRev l ((v + x.toNat) / 256)
def addL (l : List UInt8) (v : Nat) : List UInt8 := (addRev l.reverse v).reverse
def REnc.step (e : REnc) : REnc := ⟨e.L ++ [0], e.R * 256⟩
def REnc.norm : Nat → REnc → REnc
  | 0, e => e
  | f + 1, e => if e.R < 16777216 then REnc.norm f e.step else e
def REnc.part (e : REnc) (v : Nat) (b : Bool) : REnc := if b then ⟨addL e.L v, e.R - v⟩ else ⟨e.L, v⟩
def REnc.narrow (e : REnc) (v : Nat) (b : Bool) : REnc := REnc.norm 3 (e.part v b)
def REnc.new : REnc := ⟨[0, 0, 0, 0], 4294967295⟩
def REnc.bytes (e : REnc) : List UInt8 := trim e.L

structure REnc.Ok (e : REnc) (lim : Nat) : Prop where
  r0 : 16777216 ≤ e.R
  r1 : e.R ≤ 4294967295
  len : e.L.length ≤ lim
end Go.Proofs.YtnlfnknkiggejaaDoor
