/- Plain words: bits that learn. -/
import Derived.Test.YtnlfnknkiggejaaDoorRefSpec
namespace Go.Proofs.YtnlfnknkiggejaaDoor

def learnP (p : Nat) (b : Bool) : Nat := if b then p - p / 32 else p + (2048 - p) / 32
def learnAt (P : List Nat) (c : Nat) (b : Bool) : List Nat := P.set c (learnP (P.getD c 0) b)
/-- Chances that may be. -/
structure POk (P : List Nat) : Prop where
  len : P.length = 64
  lo : ∀ c, c < 64 → 31 ≤ P.getD c 0
  hi : ∀ c, c < 64 → P.getD c 0 ≤ 2017
theorem learnP_ok {p : Nat} (h1 : 31 ≤ p) (h2 : p ≤ 2017) (b : Bool) : 31 ≤ learnP p b ∧ learnP p b ≤ 2017 := by
  cases b <;> simp only [learnP] <;> simp <;> omega
theorem POk.learn {P : List Nat} (h : POk P) (c : Nat) (hc : c < 64) (b : Bool) : POk (learnAt P c b) := by
  have hl := h.len
  have hg : ∀ i, i < 64 → (learnAt P c b).getD i 0 = if c = i then learnP (P.getD c 0) b else P.getD i 0 := by
    intro i hi
    unfold learnAt
    rw [List.getD_eq_getElem?_getD, List.getElem?_set]
    split
    · rename_i e
      subst e
      simp [show c < P.length by omega]
    · rw [List.getD_eq_getElem?_getD]
  refine ⟨by simp [learnAt, hl], fun i hi => ?_, fun i hi => ?_⟩
  · rw [hg i hi]
    split
    · exact (learnP_ok (h.lo c hc) (h.hi c hc) b).1
    · exact h.lo i hi
  · rw [hg i hi]
    split
    · exact (learnP_ok (h.lo c hc) (h.hi c hc) b).2
    · exact h.hi i hi

/-- A machine that codes bits, or tells them. -/
structure Mach (σ : Type) where
  bit : σ → Nat → Bool → Bool × σ
  flat : σ → Bool → Bool × σ

/-- The writer. -/
structure Wr where
  P : List Nat
  e : Enc
def Wr.bit (s : Wr) (c : Nat) (b : Bool) : Bool × Wr := (b, ⟨learnAt s.P c b, s.e.narrow (s.e.r / 2048 * s.P.getD c 0) b⟩)
def Wr.flat (s : Wr) (b : Bool) : Bool × Wr := (b, ⟨s.P, s.e.narrow (s.e.r / 2) b⟩)
def wrM : Mach Wr := ⟨Wr.bit, Wr.flat⟩

/-- The reader. -/
structure Rd where
  P : List Nat
  d : Dec
def Rd.bit (s : Rd) (c : Nat) (_b : Bool) : Bool × Rd :=
  (s.d.bit (s.d.r / 2048 * s.P.getD c 0), ⟨learnAt s.P c (s.d.bit (s.d.r / 2048 * s.P.getD c 0)), s.d.narrow (s.d.r / 2048 * s.P.getD c 0)⟩)
def Rd.flat (s : Rd) (_b : Bool) : Bool × Rd := (s.d.bit (s.d.r / 2), ⟨s.P, s.d.narrow (s.d.r / 2)⟩)
def rdM : Mach Rd := ⟨Rd.bit, Rd.flat⟩

/-- The document's coder, as a writer and as a reader. -/
structure XWr where
  P : List Nat
  e : REnc
def XWr.bit (s : XWr) (c : Nat) (b : Bool) : Bool × XWr := (b, ⟨learnAt s.P c b, s.e.narrow (s.e.R / 2048 * s.P.getD c 0) b⟩)
def XWr.flat (s : XWr) (b : Bool) : Bool × XWr := (b, ⟨s.P, s.e.narrow (s.e.R / 2) b⟩)
def xwM : Mach XWr := ⟨XWr.bit, XWr.flat⟩
structure XRd where
  P : List Nat
  d : Dec
def XRd.bit (s : XRd) (c : Nat) (_b : Bool) : Bool × XRd :=
  (s.d.bit (s.d.r / 2048 * s.P.getD c 0), ⟨learnAt s.P c (s.d.bit (s.d.r / 2048 * s.P.getD c 0)), s.d.rnarrow (s.d.r / 2048 * s.P.getD c 0)⟩)
def XRd.flat (s : XRd) (_b : Bool) : Bool × XRd := (s.d.bit (s.d.r / 2), ⟨s.P, s.d.rnarrow (s.d.r / 2)⟩)
def xrM : Mach XRd := ⟨XRd.bit, XRd.flat⟩

/-- Bit with whatever context: outside 0 to 63 the chances are even. -/
def Mach.anyBit {σ : Type} (M : Mach σ) (s : σ) (c : Int) (b : Bool) : Bool × σ := if 0 ≤ c ∧ c < 64 then M.bit s c.toNat b else M.flat s b

/-- Ones and a nought: n of them so far, k at most to come; the context is f of how many. -/
def Mach.ones {σ : Type} (M : Mach σ) (f : Nat → Nat) (v : Int) : Nat → Nat → σ → Nat × σ
  | 0, n, s => (n, s)
  | k + 1, n, s => if (M.bit s (f n) (decide ((n : Int) < v))).1 then M.ones f v k (n + 1) (M.bit s (f n) (decide ((n : Int) < v))).2 else (n, (M.bit s (f n) (decide ((n : Int) < v))).2)
def Mach.kind {σ : Type} (M : Mach σ) (k : Int) (s : σ) : Int × σ := ((M.ones (fun n => n) k 3 0 s).1, (M.ones (fun n => n) k 3 0 s).2)
def cut (v lo hi : Int) : Int := min (max v lo) hi
def Mach.mode {σ : Type} (M : Mach σ) (m : Int) (s : σ) : Int × σ :=
  let a := M.bit s 3 (decide (1 < cut m 0 3))
  let b := M.bit a.2 (if a.1 then 5 else 4) (decide (cut m 0 3 % 2 = 1))
  ((if a.1 then 2 else 0) + (if b.1 then 1 else 0), b.2)
def Mach.part {σ : Type} (M : Mach σ) (v : Int) (s : σ) : Int × σ :=
  let a := M.bit s 6 (decide (cut v (-15) 15 ≠ 0))
  if a.1 then
    let d := M.flat a.2 (decide (cut v (-15) 15 < 0))
    let n := M.ones (fun n => 7 + min n 6) (max (cut v (-15) 15) (-(cut v (-15) 15)) - 1) 14 0 d.2
    (if d.1 then -(n.1 : Int) - 1 else (n.1 : Int) + 1, n.2)
  else (0, a.2)
end Go.Proofs.YtnlfnknkiggejaaDoor
