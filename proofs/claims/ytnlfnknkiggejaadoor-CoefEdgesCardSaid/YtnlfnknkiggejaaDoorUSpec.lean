/- Chapter 4, plain: the sum, a unit as bytes, what is read. -/
import Derived.Test.YtnlfnknkiggejaaDoorMem
namespace Go.Proofs.YtnlfnknkiggejaaDoor

/-! ### The sum -/
def crcBit (c : Nat) : Nat := if c % 2 = 1 then (c / 2) ^^^ 3988292384 else c / 2
def crcBits : Nat → Nat → Nat
  | 0, c => c
  | k + 1, c => crcBit (crcBits k c)
def crcByte (c : Nat) (x : UInt8) : Nat := crcBits 8 (c ^^^ x.toNat)
def crcFrom (c : Nat) (bs : List UInt8) : Nat := bs.foldl crcByte c
def sumOf (bs : List UInt8) : Nat := 4294967295 ^^^ crcFrom 4294967295 bs
theorem crcBit_lt {c : Nat} (h : c < 4294967296) : crcBit c < 4294967296 := by
  unfold crcBit
  split
  · exact Nat.xor_lt_two_pow (n := 32) (by omega) (by omega)
  · omega
theorem crcBits_lt (k : Nat) {c : Nat} (h : c < 4294967296) : crcBits k c < 4294967296 := by
  induction k with
  | zero => exact h
  | succ k ih => exact crcBit_lt ih
theorem crcMix_lt {c : Nat} (h : c < 4294967296) (x : UInt8) : c ^^^ x.toNat < 4294967296 := Nat.xor_lt_two_pow (n := 32) h (by have := x.toNat_lt; omega)
theorem crcByte_lt {c : Nat} (h : c < 4294967296) (x : UInt8) : crcByte c x < 4294967296 := crcBits_lt 8 (crcMix_lt h x)
theorem crcFrom_lt (bs : List UInt8) : ∀ {c : Nat}, c < 4294967296 → crcFrom c bs < 4294967296 := by
  induction bs with
  | nil => intro c h; exact h
  | cons x bs ih => intro c h; exact ih (crcByte_lt h x)
theorem sumOf_lt (bs : List UInt8) : sumOf bs < 4294967296 := Nat.xor_lt_two_pow (n := 32) (by omega) (crcFrom_lt bs (by omega))
theorem crcFrom_append (c : Nat) (a b : List UInt8) : crcFrom c (a ++ b) = crcFrom (crcFrom c a) b := by unfold crcFrom; rw [List.foldl_append]

/-- The step is one to one: its upper bit tells the bit that fell off. -/
theorem crcBit_inj {a b : Nat} (ha : a < 4294967296) (hb : b < 4294967296) (h : crcBit a = crcBit b) : a = b := by
  have top : ∀ {c : Nat}, c < 4294967296 → c % 2 = 1 → 2147483648 ≤ (c / 2) ^^^ 3988292384 := by
    intro c hc _
    have hq : c / 2 < 2 ^ 31 := by omega
    have h1 : ((c / 2) ^^^ 3988292384).testBit 31 = true := by
      rw [Nat.testBit_xor, Nat.testBit_lt_two_pow hq]
      decide
    exact Nat.ge_two_pow_of_testBit h1
  unfold crcBit at h
  split at h <;> split at h
  · rename_i h1 h2
    have := congrArg (· ^^^ 3988292384) h
    simp only [Nat.xor_assoc, Nat.xor_self, Nat.xor_zero] at this
    omega
  · rename_i h1 h2
    have := top ha h1
    omega
  · rename_i h1 h2
    have := top hb h2
    omega
  · omega
theorem crcBits_inj (k : Nat) : ∀ {a b : Nat}, a < 4294967296 → b < 4294967296 → crcBits k a = crcBits k b → a = b := by
  induction k with
  | zero => intro a b _ _ h; exact h
  | succ k ih => intro a b ha hb h; exact ih ha hb (crcBit_inj (crcBits_lt k ha) (crcBits_lt k hb) h)
theorem xor_right {a b x : Nat} (h : a ^^^ x = b ^^^ x) : a = b := by
  have := congrArg (· ^^^ x) h
  simpa only [Nat.xor_assoc, Nat.xor_self, Nat.xor_zero] using this
theorem xor_left {a x y : Nat} (h : a ^^^ x = a ^^^ y) : x = y := by
  have := congrArg (a ^^^ ·) h
  simpa only [← Nat.xor_assoc, Nat.xor_self, Nat.zero_xor] using this
theorem crcByte_inj {a b : Nat} (ha : a < 4294967296) (hb : b < 4294967296) (x : UInt8) (h : crcByte a x = crcByte b x) : a = b :=
  xor_right (crcBits_inj 8 (crcMix_lt ha x) (crcMix_lt hb x) h)
theorem crcByte_byte {c : Nat} (hc : c < 4294967296) {x y : UInt8} (h : crcByte c x = crcByte c y) : x = y :=
  UInt8.toNat_inj.1 (xor_left (crcBits_inj 8 (crcMix_lt hc x) (crcMix_lt hc y) h))
theorem crcFrom_inj (bs : List UInt8) : ∀ {a b : Nat}, a < 4294967296 → b < 4294967296 → crcFrom a bs = crcFrom b bs → a = b := by
  induction bs with
  | nil => intro a b _ _ h; exact h
  | cons x bs ih => intro a b ha hb h; exact crcByte_inj ha hb x (ih (crcByte_lt ha x) (crcByte_lt hb x) h)
/-- One byte turned turns the sum. -/
theorem sumOf_turned (a b : List UInt8) (x y : UInt8) (h : sumOf (a ++ x :: b) = sumOf (a ++ y :: b)) : x = y := by
  have h0 : (4294967295 : Nat) < 4294967296 := by omega
  have ha := crcFrom_lt a h0
  have h1 := xor_left h
  rw [crcFrom_append, crcFrom_append] at h1
  have h3 : crcFrom (crcByte (crcFrom 4294967295 a) x) b = crcFrom (crcByte (crcFrom 4294967295 a) y) b := h1
  exact crcByte_byte ha (crcFrom_inj b (crcByte_lt ha x) (crcByte_lt ha y) h3)

/-! ### Numbers, the highest byte first -/
def be (l : List UInt8) : Nat := l.foldl (fun v x => v * 256 + x.toNat) 0
def three (n : Nat) : List UInt8 := [UInt8.ofNat (n / 65536), UInt8.ofNat (n / 256), UInt8.ofNat n]
def quad (n : Nat) : List UInt8 := [UInt8.ofNat (n / 16777216), UInt8.ofNat (n / 65536), UInt8.ofNat (n / 256), UInt8.ofNat n]
theorem be_three {n : Nat} (h : n < 16777216) : be (three n) = n := by simp [be, three]; omega
theorem be_quad {n : Nat} (h : n < 4294967296) : be (quad n) = n := by simp [be, quad]; omega
theorem be3 (a b c : UInt8) : be [a, b, c] = a.toNat * 65536 + b.toNat * 256 + c.toNat := by simp [be]; omega
theorem be4 (a b c d : UInt8) : be [a, b, c, d] = a.toNat * 16777216 + b.toNat * 65536 + c.toNat * 256 + d.toNat := by simp [be]; omega

/-! ### A unit -/
structure UnitS where
  kind : Nat
  data : List UInt8
  at_ : Nat
  end_ : Nat
deriving DecidableEq
/-- The bytes ahead of the sum. -/
def unitHd (k : Nat) (d : List UInt8) : List UInt8 := UInt8.ofNat k :: three d.length ++ d
def unitBytes (k : Nat) (d : List UInt8) : List UInt8 := if k = 0 then [0] else unitHd k d ++ quad (sumOf (unitHd k d))
/-- Why no unit is made; 0: it is. -/
def makeNo (k : Int) (n : Nat) : Int := if k < 0 ∨ 255 < k ∨ (k = 0 ∧ 0 < n) then 13 else if 65536 < n then 5 else 0
/-- What is read of the bytes from a place on: why it is none (a code); or kind, data, how many bytes. -/
inductive ReadR where
  | no (c : Nat)
  | fill
  | unit (k : Nat) (d : List UInt8)
def readU : List UInt8 → ReadR
  | 0 :: _ => .fill
  | k :: a :: b :: c :: r =>
    let n := be [a, b, c]
    if 65536 < n then .no 5
    else if r.length < n + 4 then .no 1
    else if be ((r.drop n).take 4) = sumOf (k :: a :: b :: c :: r.take n) then .unit k.toNat (r.take n) else .no 4
  | _ => .no 1
def ReadR.units (at_ : Nat) : ReadR → Option UnitS
  | .no _ => none
  | .fill => some ⟨0, [], at_, at_ + 1⟩
  | .unit k d => some ⟨k, d, at_, at_ + d.length + 8⟩
def ReadR.code : ReadR → Nat
  | .no c => c
  | _ => 0
theorem readU_made {k : Nat} {d : List UInt8} (hk : 1 ≤ k ∧ k ≤ 255) (hd : d.length ≤ 65536) (r : List UInt8) : readU (unitBytes k d ++ r) = .unit k d := by
  have hk0 : k ≠ 0 := by omega
  have hkb : UInt8.ofNat k ≠ 0 := by
    intro h
    have := congrArg UInt8.toNat h
    simp at this
    omega
  have e : unitBytes k d ++ r = UInt8.ofNat k :: UInt8.ofNat (d.length / 65536) :: UInt8.ofNat (d.length / 256) :: UInt8.ofNat d.length :: (d ++ (quad (sumOf (unitHd k d)) ++ r)) := by
    unfold unitBytes
    rw [if_neg hk0]
    simp [unitHd, three]
  rw [e]
  have hn : be [UInt8.ofNat (d.length / 65536), UInt8.ofNat (d.length / 256), UInt8.ofNat d.length] = d.length := be_three (n := d.length) (by omega)
  have hq : (quad (sumOf (unitHd k d))).length = 4 := rfl
  have hs : be (quad (sumOf (unitHd k d))) = sumOf (unitHd k d) := be_quad (sumOf_lt _)
  unfold readU
  split
  · rename_i h
    injection h with h
    exact absurd h hkb
  · rename_i h
    injection h with h1 h
    injection h with h2 h
    injection h with h3 h
    injection h with h4 h
    subst h1 h2 h3 h4 h
    simp only [hn]
    rw [if_neg (by omega), if_neg (by simp [hq]), List.take_left, List.drop_left, List.take_append_of_le_length (by rw [hq]; omega), List.take_of_length_le (by rw [hq]; omega), hs, if_pos (by simp [unitHd, three])]
    simp
    omega
  · rename_i h1 h2
    exact absurd rfl (h2 _ _ _ _ _)
theorem readU_fill (r : List UInt8) : readU (0 :: r) = .fill := rfl
end Go.Proofs.YtnlfnknkiggejaaDoor
