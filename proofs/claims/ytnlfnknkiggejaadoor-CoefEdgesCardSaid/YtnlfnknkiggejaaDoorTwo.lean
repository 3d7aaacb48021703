/- Two objects that share nothing, made by the call. -/
import Derived.Test.YtnlfnknkiggejaaDoorCoder
namespace Go.Proofs.YtnlfnknkiggejaaDoor
open Go.RowKit

section
variable {σ τ : Type} {M : Mach σ} {N : Mach τ} {f1 f2 f3 f4 : FuncId} {m1 m2 : Value} {A1 : World → (Nat → Prop) → σ → Prop} {A2 : World → (Nat → Prop) → τ → Prop} {O1 : σ → Nat → Prop} {O2 : τ → Nat → Prop}

structure TwoAt (B : Nat) (w0 : World) (A1 : World → (Nat → Prop) → σ → Prop) (A2 : World → (Nat → Prop) → τ → Prop) (F G : Nat → Prop) (s : σ) (t : τ) (wr : World) : Prop where
  l : A1 wr F s
  r : A2 wr G t
  dis : ∀ k, F k → ¬ G k
  lB : ∀ k, F k → B ≤ k
  rB : ∀ k, G k → B ≤ k
  bel : Below B w0 wr
  size : B ≤ wr.heap.size
def Two (B : Nat) (w0 : World) (A1 : World → (Nat → Prop) → σ → Prop) (A2 : World → (Nat → Prop) → τ → Prop) (s : σ) (t : τ) (wr : World) : Prop := ∃ F G, TwoAt B w0 A1 A2 F G s t wr

variable {B : Nat} {w0 wr w' : World} {F G : Nat → Prop} {s s' : σ} {t t' : τ}
theorem TwoAt.left (H2 : IsCoder N f3 f4 m2 A2 O2) (T : TwoAt B w0 A1 A2 F G s t wr) (hm : Moved A1 wr F s' w') : Two B w0 A1 A2 s' t w' := by
  obtain ⟨F', a, o, f⟩ := hm
  refine ⟨F', G, a, H2.keep _ _ G F t T.r o (fun k hk hf => T.dis k hf hk), fun k hk hg => ?_, fun k hk => ?_, T.rB, T.bel.trans ?_, Nat.le_trans T.size o.size⟩
  · rcases f k hk with h | h
    · exact T.dis k h hg
    · have := H2.there _ _ _ _ T.r hg
      omega
  · have := T.size
    rcases f k hk with h | h
    · exact T.lB k h
    · omega
  · exact ⟨o.os, o.tape, o.output, o.size, fun k hk => o.block k (by have := T.size; omega) (fun h => by have := T.lB k h; omega)⟩
theorem TwoAt.right (H1 : IsCoder M f1 f2 m1 A1 O1) (T : TwoAt B w0 A1 A2 F G s t wr) (hm : Moved A2 wr G t' w') : Two B w0 A1 A2 s t' w' := by
  obtain ⟨G', a, o, f⟩ := hm
  refine ⟨F, G', H1.keep _ _ F G s T.l o (fun k hk hg => T.dis k hk hg), a, fun k hk hg => ?_, T.lB, fun k hk => ?_, T.bel.trans ?_, Nat.le_trans T.size o.size⟩
  · rcases f k hg with h | h
    · exact T.dis k hk h
    · have := H1.there _ _ _ _ T.l hk
      omega
  · have := T.size
    rcases f k hk with h | h
    · exact T.rB k h
    · omega
  · exact ⟨o.os, o.tape, o.output, o.size, fun k hk => o.block k (by have := T.size; omega) (fun h => by have := T.rB k h; omega)⟩
/-- Something else is made or read: both stay. -/
theorem TwoAt.keep {S : Nat → Prop} (H1 : IsCoder M f1 f2 m1 A1 O1) (H2 : IsCoder N f3 f4 m2 A2 O2) (T : TwoAt B w0 A1 A2 F G s t wr) (o : Only S wr w') (hF : ∀ k, F k → ¬ S k) (hG : ∀ k, G k → ¬ S k) (hB : ∀ k, k < B → ¬ S k) : TwoAt B w0 A1 A2 F G s t w' :=
  ⟨H1.keep _ _ _ _ _ T.l o hF, H2.keep _ _ _ _ _ T.r o hG, T.dis, T.lB, T.rB, T.bel.trans ⟨o.os, o.tape, o.output, o.size, fun k hk => o.block k (by have := T.size; omega) (hB k hk)⟩, Nat.le_trans T.size o.size⟩
theorem TwoAt.read (H1 : IsCoder M f1 f2 m1 A1 O1) (H2 : IsCoder N f3 f4 m2 A2 O2) (T : TwoAt B w0 A1 A2 F G s t wr) (o : Only (fun _ => False) wr w') : TwoAt B w0 A1 A2 F G s t w' :=
  T.keep H1 H2 o (fun _ _ h => h) (fun _ _ h => h) (fun _ _ h => h)
theorem TwoAt.below (H1 : IsCoder M f1 f2 m1 A1 O1) (H2 : IsCoder N f3 f4 m2 A2 O2) (T : TwoAt B w0 A1 A2 F G s t wr) (o : Below wr.heap.size wr w') : TwoAt B w0 A1 A2 F G s t w' :=
  T.read H1 H2 ⟨o.os, o.tape, o.output, o.size, fun k hk _ => o.block k hk⟩
end
end Go.Proofs.YtnlfnknkiggejaaDoor
