/- A coder of one's own; what a square asks and answers. -/
import Derived.Test.YtnlfnknkiggejaaDoorFirst14
namespace Go.Proofs.YtnlfnknkiggejaaDoor
open Go.RowKit

/-- A coder of one's own. -/
structure OwnC {σ : Type} (At : World → (Nat → Prop) → σ → Prop) (w : World) (s : σ) (W : World) (F : Nat → Prop) : Prop where
  a : At W F s
  lo : ∀ k, F k → w.heap.size ≤ k
  bel : Below w.heap.size w W
section
variable {σ : Type} {M : Mach σ} {fB fF : FuncId} {me : Value} {At : World → (Nat → Prop) → σ → Prop} {Ok : σ → Nat → Prop} {w W W' : World} {s s' : σ} {F F' : Nat → Prop}
theorem OwnC.below (H : IsCoder M fB fF me At Ok) (h : OwnC At w s W F) (hb : Below W.heap.size W W') : OwnC At w s W' F :=
  ⟨H.keep _ _ F (fun _ => False) s h.a (Only.of_below hb) (fun _ _ h => h), h.lo, h.bel.trans (hb.mono h.bel.size)⟩
theorem OwnC.code (h : OwnC At w s W F) (c : CW At W F s' W' F') : OwnC At w s' W' F' :=
  ⟨c.a, fun k hk => by
    rcases c.f k hk with h1 | h1
    · exact h.lo k h1
    · exact Nat.le_trans h.bel.size h1, h.bel.trans ⟨c.o.os, c.o.tape, c.o.output, c.o.size, fun k hk => c.o.block k (by have := h.bel.size; omega) (fun hF => by have := h.lo k hF; omega)⟩⟩
theorem OwnC.at_new (H : IsCoder M fB fF me At Ok) (h : OwnC At w s W F) : ¬ F W.heap.size := fun hF => by
  have := H.there _ _ _ _ h.a hF
  omega
end
def sdOf (b : Bool) : Nat := if b then 8 else 4
def baseOf (b : Bool) : Nat := if b then 39 else 14
def nOf (b : Bool) : Nat := if b then 64 else 16
theorem sized_zeros (b : Bool) : Sized (zerosL (nOf b)) (sdOf b) (baseOf b) := by
  cases b
  · exact .inl ⟨rfl, rfl, by simp [zerosL, nOf]⟩
  · exact .inr ⟨rfl, rfl, by simp [zerosL, nOf]⟩
theorem zeros_in (n : Nat) : (zerosL n).any lvOut = false := by
  rw [Bool.eq_false_iff]
  intro h
  obtain ⟨v, hv, hp⟩ := List.any_eq_true.1 h
  have := List.eq_of_mem_replicate hv
  subst this
  exact Bool.noConfusion hp
theorem ord_sized {l : List Int} {sd base : Nat} (h : Sized l sd base) : OrdOk (ordOf sd) l.length ∧ base ≤ 39 ∧ 0 < l.length := by
  rcases h with ⟨rfl, rfl, h⟩ | ⟨rfl, rfl, h⟩
  · rw [h]; exact ⟨ord4_ok, by omega, by omega⟩
  · rw [h]; exact ⟨ord8_ok, by omega, by omega⟩
/-- How many bits a square asks. -/
theorem ok_square {σ : Type} {M : Mach σ} {fB fF : FuncId} {me : Value} {At : World → (Nat → Prop) → σ → Prop} {Ok : σ → Nat → Prop} (H : IsCoder M fB fF me At Ok) {l : List Int} {sd base : Nat} (hsd : Sized l sd base) (s : σ) (lim : Nat) (h : Ok s lim) :
    ∃ m, m ≤ lim + 8300 ∧ Ok (M.run (squareA base (ordOf sd) l) s).2 m := by
  obtain ⟨ho, hb, _⟩ := ord_sized hsd
  obtain ⟨m, hm, hk⟩ := H.okRun (squareA base (ordOf sd) l) (43 * (ordOf sd).length + 1) (ctx_square base hb _ _) (most_square base _ _) s lim h
  refine ⟨m, ?_, hk⟩
  have : (ordOf sd).length ≤ 64 := by
    rw [ho.len]
    rcases hsd with h | h <;> omega
  omega
theorem ans_square {σ : Type} {M : Mach σ} {l : List Int} {sd base : Nat} (hsd : Sized l sd base) (s : σ) : SqOk l.length (M.run (squareA base (ordOf sd) l) s).1 := by
  obtain ⟨ho, _, _⟩ := ord_sized hsd
  exact All.run M (all_square base (ordOf sd) l ho.len) s
theorem nums_blk {W : World} {g : Nat} {l : List Int} {cs : Array Value} (h : Blk W g 3 cs) (hc : cs = (l.map intV).toArray) : Nums W (.slice (some ⟨g, 0, none⟩) l.length l.length) l := (noff_new (F := fun _ => False) h hc rfl (fun h => h)).n
section
variable {σ τ : Type} {M : Mach σ} {N : Mach τ} {f1 f2 f3 f4 : FuncId} {m1 m2 : Value} {A1 : World → (Nat → Prop) → σ → Prop} {A2 : World → (Nat → Prop) → τ → Prop} {O1 : σ → Nat → Prop} {O2 : τ → Nat → Prop}
variable {B : Nat} {w0 wr w' : World} {F F' G G' : Nat → Prop} {s s' : σ} {t t' : τ}
theorem TwoAt.leftC (H2 : IsCoder N f3 f4 m2 A2 O2) (T : TwoAt B w0 A1 A2 F G s t wr) (c : CW A1 wr F s' w' F') : TwoAt B w0 A1 A2 F' G s' t w' :=
  ⟨c.a, H2.keep _ _ G F t T.r c.o (fun k hk hf => T.dis k hf hk), fun k hk hg => by
    rcases c.f k hk with h | h
    · exact T.dis k h hg
    · have := H2.there _ _ _ _ T.r hg
      omega, fun k hk => by
    have := T.size
    rcases c.f k hk with h | h
    · exact T.lB k h
    · omega, T.rB, T.bel.trans ⟨c.o.os, c.o.tape, c.o.output, c.o.size, fun k hk => c.o.block k (by have := T.size; omega) (fun h => by have := T.lB k h; omega)⟩, Nat.le_trans T.size c.o.size⟩
theorem TwoAt.rightC (H1 : IsCoder M f1 f2 m1 A1 O1) (T : TwoAt B w0 A1 A2 F G s t wr) (c : CW A2 wr G t' w' G') : TwoAt B w0 A1 A2 F G' s t' w' :=
  ⟨H1.keep _ _ F G s T.l c.o (fun k hk hg => T.dis k hk hg), c.a, fun k hk hg => by
    rcases c.f k hg with h | h
    · exact T.dis k hk h
    · have := H1.there _ _ _ _ T.l hk
      omega, T.lB, fun k hk => by
    have := T.size
    rcases c.f k hk with h | h
    · exact T.rB k h
    · omega, T.bel.trans ⟨c.o.os, c.o.tape, c.o.output, c.o.size, fun k hk => c.o.block k (by have := T.size; omega) (fun h => by have := T.rB k h; omega)⟩, Nat.le_trans T.size c.o.size⟩
end
end Go.Proofs.YtnlfnknkiggejaaDoor
