/- An owned row beside an object. -/
import Derived.Test.YtgdhbmpdicdbpaaDoorObj
namespace Go.Proofs.YtgdhbmpdicdbpaaDoor
open Go.RowKit

section
variable {σ : Type} {At : World → (Nat → Prop) → σ → Prop}
structure RowAt (t : TypeId) (size : Nat) (v : Value) (n : Nat) (xs : List Value) (B : Nat) (w0 : World) (At : World → (Nat → Prop) → σ → Prop) (F : Nat → Prop) (s : σ) (wr : World) : Prop where
  at_ : At wr F s
  own : wr.ownsRow B t size v n xs
  far : ∀ k, v.ownBlock = some k → ¬ F k
  lB : ∀ k, F k → B ≤ k
  bel : Below B w0 wr
  big : B ≤ wr.heap.size
variable {t : TypeId} {size n : Nat} {v : Value} {xs : List Value} {B : Nat} {w0 wr w' : World} {F : Nat → Prop} {s s' : σ}
theorem own_keep {S : Nat → Prop} (h : wr.ownsRow B t size v n xs) (ho : Only S wr w') (hv : ∀ k, v.ownBlock = some k → ¬ S k) : w'.ownsRow B t size v n xs := by
  refine ⟨h.1, ?_⟩
  rcases h.2 with hn | ⟨g, cap, cur, hv', hb, hg, hr⟩
  · exact .inl hn
  · refine .inr ⟨g, cap, cur, hv', hb, ?_, hr⟩
    have hlt := (Array.getElem?_eq_some_iff.1 hg).1
    rw [ho.block g hlt (hv g (by rw [hv']; rfl))]
    exact hg
theorem RowAt.moved (T : RowAt t size v n xs B w0 At F s wr) (hm : MovedO At wr F s' w') : ∃ F', RowAt t size v n xs B w0 At F' s' w' := by
  obtain ⟨F', a, o, f⟩ := hm
  have hbig := T.big
  refine ⟨F', a, own_keep T.own o T.far, fun k hk hf => ?_, fun k hk => ?_, T.bel.trans ⟨o.os, o.tape, o.output, o.size, fun k hk => o.block k (by omega) (fun h => by have := T.lB k h; omega)⟩, Nat.le_trans T.big o.size⟩
  · rcases f k hf with h | h
    · exact T.far k hk h
    · have := (T.own.lt k hk).2
      omega
  · rcases f k hk with h | h
    · exact T.lB k h
    · omega
theorem RowAt.grown {v' : Value} {n' : Nat} {xs' : List Value} (H : IsObj At) (T : RowAt t size v n xs B w0 At F s wr) (hg : wr.grownBy w' v.ownBlock) (hown : w'.ownsRow B t size v' n' xs') (hat : ∀ k, v'.ownBlock = some k → v.ownBlock = some k ∨ k = wr.heap.size) :
    RowAt t size v' n' xs' B w0 At F s w' := by
  have hbig := T.big
  have ho : Only (fun k => v.ownBlock = some k) wr w' := ⟨hg.os, hg.tape, hg.output, hg.size, fun k hk hn => hg.block k hk (fun e => hn e.symm)⟩
  refine ⟨H.keep _ _ F _ s T.at_ ho (fun k hk hv => T.far k hv hk), hown, fun k hk hf => ?_, T.lB, T.bel.trans ⟨ho.os, ho.tape, ho.output, ho.size, fun k hk => ho.block k (by omega) (fun h => by have := (T.own.lt k h).1; omega)⟩, Nat.le_trans T.big hg.size⟩
  rcases hat k hk with h | h
  · exact T.far k h hf
  · have := H.there _ _ _ k T.at_ hf
    omega
theorem RowAt.read (H : IsObj At) (T : RowAt t size v n xs B w0 At F s wr) (o : Only (fun _ => False) wr w') : RowAt t size v n xs B w0 At F s w' :=
  ⟨H.keep _ _ F _ s T.at_ o (fun _ _ h => h), own_keep T.own o (fun _ _ h => h), T.far, T.lB, T.bel.trans ⟨o.os, o.tape, o.output, o.size, fun k hk => o.block k (by have := T.big; omega) (fun h => h)⟩, Nat.le_trans T.big o.size⟩
theorem RowAt.below (H : IsObj At) (T : RowAt t size v n xs B w0 At F s wr) (o : Below wr.heap.size wr w') : RowAt t size v n xs B w0 At F s w' :=
  T.read H ⟨o.os, o.tape, o.output, o.size, fun k hk _ => o.block k hk⟩
end
/-- A block known whole, as a slice of one element. -/
theorem from_blk_n {w : World} {g size : Nat} {t : TypeId} {cs : Array Value} {c m : Nat} (h : Blk w g t cs) (hs : cs.size = m * size) : From w size (.slice (some ⟨g, 0, none⟩) m c) m cs.toList := by
  refine ⟨_, _, rfl, by simpa using hs, fun _ => ⟨_, rfl, fun j u hu => ?_⟩⟩
  have : ((⟨g, 0, none⟩ : Addr).add j) = ⟨g, j, none⟩ := by unfold Addr.add; split <;> simp_all
  rw [this, h.cell]
  simpa using hu
end Go.Proofs.YtgdhbmpdicdbpaaDoor
