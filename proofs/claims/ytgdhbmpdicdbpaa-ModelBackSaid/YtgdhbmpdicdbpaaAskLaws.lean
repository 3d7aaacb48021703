/- Plain laws of one operation: the numbers' bounds; what a writer tells. -/
import Derived.Test.YtgdhbmpdicdbpaaLawReads
namespace Go.Proofs.Ytgdhbmpdicdbpaa

section
variable {σ : Type} {M : Mach σ}
theorem Mach.ones_le (f : Nat → Nat) (v : Int) : ∀ (k n : Nat) (s : σ), (M.ones f v k n s).1 ≤ n + k
  | 0, n, s => by simp [Mach.ones]
  | k + 1, n, s => by
    rw [Mach.ones]
    split
    · have := Mach.ones_le f v k (n + 1) (M.bit s (f n) (decide ((n : Int) < v))).2
      omega
    · simp
theorem Mach.ones_true (hb : ∀ s c u, (M.bit s c u).1 = u) (f : Nat → Nat) (v : Int) : ∀ (k n : Nat) (s : σ), (n : Int) ≤ v → ((M.ones f v k n s).1 : Int) = min v (n + k)
  | 0, n, s, h => by simp only [Mach.ones]; omega
  | k + 1, n, s, h => by
    rw [Mach.ones, hb]
    by_cases hn : (n : Int) < v
    · rw [if_pos (by simpa using hn), Mach.ones_true hb f v k (n + 1) _ (by omega)]
      omega
    · rw [if_neg (by simpa using hn)]
      show (n : Int) = _
      omega
theorem Mach.kind_bounds (v : Int) (s : σ) : 0 ≤ (M.kind v s).1 ∧ (M.kind v s).1 ≤ 3 := by
  have := Mach.ones_le (M := M) (fun n => n) v 3 0 s
  show 0 ≤ (((M.ones (fun n => n) v 3 0 s).1 : Nat) : Int) ∧ (((M.ones (fun n => n) v 3 0 s).1 : Nat) : Int) ≤ 3
  omega
theorem Mach.kind_true (hb : ∀ s c u, (M.bit s c u).1 = u) (v : Int) (s : σ) (h0 : 0 ≤ v) (h3 : v ≤ 3) : (M.kind v s).1 = v := by
  have := Mach.ones_true hb (fun n => n) v 3 0 s (by omega)
  show (((M.ones (fun n => n) v 3 0 s).1 : Nat) : Int) = v
  omega
theorem Mach.mode_bounds (v : Int) (s : σ) : 0 ≤ (M.mode v s).1 ∧ (M.mode v s).1 ≤ 3 := by
  simp only [Mach.mode]
  split <;> split <;> omega
theorem Mach.mode_true (hb : ∀ s c u, (M.bit s c u).1 = u) (v : Int) (s : σ) : (M.mode v s).1 = cut v 0 3 := by
  simp only [Mach.mode, hb]
  have h : 0 ≤ cut v 0 3 ∧ cut v 0 3 ≤ 3 := by unfold cut; omega
  generalize cut v 0 3 = m at *
  by_cases h1 : 1 < m
  · by_cases h2 : m % 2 = 1
    · simp [h1, h2]; omega
    · simp [h1, h2]; omega
  · by_cases h2 : m % 2 = 1
    · simp [h1, h2]; omega
    · simp [h1, h2]; omega
theorem Mach.part_bounds (v : Int) (s : σ) : -15 ≤ (M.part v s).1 ∧ (M.part v s).1 ≤ 15 := by
  have := fun w t => Mach.ones_le (M := M) (fun n => 7 + min n 6) w 14 0 t
  simp only [Mach.part]
  split
  · have h := this (max (cut v (-15) 15) (-(cut v (-15) 15)) - 1) (M.flat (M.bit s 6 (decide (cut v (-15) 15 ≠ 0))).2 (decide (cut v (-15) 15 < 0))).2
    dsimp only
    split <;> omega
  · simp
theorem Mach.part_true (hb : ∀ s c u, (M.bit s c u).1 = u) (hf : ∀ s u, (M.flat s u).1 = u) (v : Int) (s : σ) : (M.part v s).1 = cut v (-15) 15 := by
  have ht := fun w t h => Mach.ones_true hb (fun n => 7 + min n 6) w 14 0 t h
  simp only [Mach.part, hb, hf]
  have h : -15 ≤ cut v (-15) 15 ∧ cut v (-15) 15 ≤ 15 := by unfold cut; omega
  generalize cut v (-15) 15 = m at *
  by_cases h0 : m = 0
  · simp [h0]
  · rw [if_pos (by simpa using h0)]
    dsimp only
    rw [ht (max m (-m) - 1) _ (by omega)]
    by_cases hn : m < 0
    · rw [if_pos (by simpa using hn)]; omega
    · rw [if_neg (by simpa using hn)]; omega
end

section
open Go.RowKit
variable {σ τ : Type} {M : Mach σ} {N : Mach τ} {f1 f2 f3 f4 : FuncId} {m1 m2 : Value} {A1 : World → (Nat → Prop) → σ → Prop} {A2 : World → (Nat → Prop) → τ → Prop} {O1 : σ → Nat → Prop} {O2 : τ → Nat → Prop}
variable {B : Nat} {w0 wr w' : World} {F G : Nat → Prop} {s s' : σ} {t t' : τ}
/-- Two objects, and a third block that is known whole. -/
structure ThreeAt (ob : Nat) (ty : TypeId) (cs : Array Value) (B : Nat) (w0 : World) (A1 : World → (Nat → Prop) → σ → Prop) (A2 : World → (Nat → Prop) → τ → Prop) (F G : Nat → Prop) (s : σ) (t : τ) (wr : World) : Prop where
  two : TwoAt B w0 A1 A2 F G s t wr
  blk : Blk wr ob ty cs
  nF : ¬ F ob
  nG : ¬ G ob
def Three (ob : Nat) (ty : TypeId) (cs : Array Value) (B : Nat) (w0 : World) (A1 : World → (Nat → Prop) → σ → Prop) (A2 : World → (Nat → Prop) → τ → Prop) (s : σ) (t : τ) (wr : World) : Prop := ∃ F G, ThreeAt ob ty cs B w0 A1 A2 F G s t wr
variable {ob : Nat} {ty : TypeId} {cs : Array Value}
theorem ThreeAt.left (H2 : IsCoder N f3 f4 m2 A2 O2) (T : ThreeAt ob ty cs B w0 A1 A2 F G s t wr) (hm : Moved A1 wr F s' w') : Three ob ty cs B w0 A1 A2 s' t w' := by
  obtain ⟨F', a, o, f⟩ := hm
  refine ⟨F', G, ⟨a, H2.keep _ _ G F t T.two.r o (fun k hk hf => T.two.dis k hf hk), fun k hk hg => ?_, fun k hk => ?_, T.two.rB, T.two.bel.trans ?_, Nat.le_trans T.two.size o.size⟩, T.blk.keep o T.nF, fun hf => ?_, T.nG⟩
  · rcases f k hk with h | h
    · exact T.two.dis k h hg
    · have := H2.there _ _ _ _ T.two.r hg
      omega
  · have := T.two.size
    rcases f k hk with h | h
    · exact T.two.lB k h
    · omega
  · exact ⟨o.os, o.tape, o.output, o.size, fun k hk => o.block k (by have := T.two.size; omega) (fun h => by have := T.two.lB k h; omega)⟩
  · rcases f ob hf with h | h
    · exact T.nF h
    · have := T.blk.lt; omega
theorem ThreeAt.right (H1 : IsCoder M f1 f2 m1 A1 O1) (T : ThreeAt ob ty cs B w0 A1 A2 F G s t wr) (hm : Moved A2 wr G t' w') : Three ob ty cs B w0 A1 A2 s t' w' := by
  obtain ⟨G', a, o, f⟩ := hm
  refine ⟨F, G', ⟨H1.keep _ _ F G s T.two.l o (fun k hk hg => T.two.dis k hk hg), a, fun k hk hg => ?_, T.two.lB, fun k hk => ?_, T.two.bel.trans ?_, Nat.le_trans T.two.size o.size⟩, T.blk.keep o T.nG, T.nF, fun hf => ?_⟩
  · rcases f k hg with h | h
    · exact T.two.dis k hk h
    · have := H1.there _ _ _ _ T.two.l hk
      omega
  · have := T.two.size
    rcases f k hk with h | h
    · exact T.two.rB k h
    · omega
  · exact ⟨o.os, o.tape, o.output, o.size, fun k hk => o.block k (by have := T.two.size; omega) (fun h => by have := T.two.rB k h; omega)⟩
  · rcases f ob hf with h | h
    · exact T.nG h
    · have := T.blk.lt; omega
theorem ThreeAt.read (H1 : IsCoder M f1 f2 m1 A1 O1) (H2 : IsCoder N f3 f4 m2 A2 O2) (T : ThreeAt ob ty cs B w0 A1 A2 F G s t wr) (o : Only (fun _ => False) wr w') : ThreeAt ob ty cs B w0 A1 A2 F G s t w' :=
  ⟨T.two.read H1 H2 o, T.blk.keep o (fun h => h), T.nF, T.nG⟩
end

theorem flagI_bounds (b : Bool) : 0 ≤ flagI b ∧ flagI b ≤ 1 := by cases b <;> decide
/-- What an answer may be. -/
theorem Mach.asks_bounds {σ : Type} {M : Mach σ} (o : Oper13) (k : Int) (s : σ) :
    (o.kind = 0 ∨ o.kind = 1 → 0 ≤ (M.asks o k s).1 ∧ (M.asks o k s).1 ≤ 1) ∧ (o.kind = 2 ∨ o.kind = 3 → 0 ≤ (M.asks o k s).1 ∧ (M.asks o k s).1 ≤ 3) ∧
    (o.kind < 0 ∨ 3 < o.kind → -15 ≤ (M.asks o k s).1 ∧ (M.asks o k s).1 ≤ 15) := by
  unfold Mach.asks
  refine ⟨fun h => ?_, fun h => ?_, fun h => ?_⟩
  · split
    · exact flagI_bounds _
    · rw [if_pos (by omega)]; exact flagI_bounds _
  · rw [if_neg (by omega), if_neg (by omega)]
    split
    · exact Mach.kind_bounds _ _
    · rw [if_pos (by omega)]; exact Mach.mode_bounds _ _
  · rw [if_neg (by omega), if_neg (by omega), if_neg (by omega), if_neg (by omega)]
    exact Mach.part_bounds _ _
theorem wrM_any (s : Wr) (c : Int) (b : Bool) : (wrM.anyBit s c b).1 = b := by unfold Mach.anyBit; split <;> rfl
theorem wr_asks_true (o : Oper13) (s : Wr) :
    (o.kind = 0 ∨ o.kind = 1 → (wrM.asks o (cut o.v 0 3) s).1 = flagI o.b) ∧ (o.kind = 2 ∨ o.kind = 3 → (wrM.asks o (cut o.v 0 3) s).1 = cut o.v 0 3) ∧
    (o.kind < 0 ∨ 3 < o.kind → (wrM.asks o (cut o.v 0 3) s).1 = cut o.v (-15) 15) := by
  have h : 0 ≤ cut o.v 0 3 ∧ cut o.v 0 3 ≤ 3 := by unfold cut; omega
  unfold Mach.asks
  refine ⟨fun h => ?_, fun h => ?_, fun h => ?_⟩
  · split
    · simp only [wrM_any]
    · rw [if_pos (by omega)]; rfl
  · rw [if_neg (by omega), if_neg (by omega)]
    split
    · exact Mach.kind_true (fun _ _ _ => rfl) _ _ (by omega) (by omega)
    · rw [if_pos (by omega)]; exact Mach.mode_true (fun _ _ _ => rfl) _ _
  · rw [if_neg (by omega), if_neg (by omega), if_neg (by omega), if_neg (by omega)]
    exact Mach.part_true (fun _ _ _ => rfl) (fun _ _ => rfl) _ _
theorem wr_asks_chance (o : Oper13) (s : Wr) (hp : POk s.P) (hk : o.kind = 0) (h0 : 0 ≤ o.c) (h1 : o.c ≤ 63) :
    (o.b = true → chanceOf (wrM.asks o (cut o.v 0 3) s).2.P o.c ≤ chanceOf s.P o.c) ∧ (o.b = false → chanceOf s.P o.c ≤ chanceOf (wrM.asks o (cut o.v 0 3) s).2.P o.c) ∧
    31 ≤ chanceOf (wrM.asks o (cut o.v 0 3) s).2.P o.c ∧ chanceOf (wrM.asks o (cut o.v 0 3) s).2.P o.c ≤ 2017 := by
  have e : (wrM.asks o (cut o.v 0 3) s).2.P = learnAt s.P o.c.toNat o.b := by
    unfold Mach.asks Mach.anyBit
    rw [if_pos hk, if_pos (by omega)]
    rfl
  rw [e]
  have hl : (learnAt s.P o.c.toNat o.b).getD o.c.toNat 0 = learnP (s.P.getD o.c.toNat 0) o.b := by
    unfold learnAt
    rw [List.getD_eq_getElem?_getD, List.getElem?_set_self (by have := hp.len; omega)]
    rfl
  have lo := hp.lo o.c.toNat (by omega)
  have hi := hp.hi o.c.toNat (by omega)
  have ok := learnP_ok lo hi o.b
  unfold chanceOf
  rw [if_pos (by omega), hl, if_pos (by omega)]
  refine ⟨fun h => ?_, fun h => ?_, by omega, by omega⟩
  · rw [h]; simp only [learnP]; simp
  · rw [h]; simp only [learnP]; simp; omega
end Go.Proofs.Ytgdhbmpdicdbpaa
