/- A writer, a reader, and a row of the call's own. -/
import Derived.Test.YtgdhbmpdicdbpaaBack
namespace Go.Proofs.Ytgdhbmpdicdbpaa
open Go.RowKit

theorem row_far {w w' : World} {base n : Nat} {t : TypeId} {v : Value} {xs : List Value} {S : Nat → Prop} (h : w.ownsRow base t 1 v n xs) (ho : Only S w w') (hv : ∀ k, v.ownBlock = some k → ¬ S k) : w'.ownsRow base t 1 v n xs := by
  refine ⟨h.1, ?_⟩
  rcases h.2 with hn | ⟨g, cap, cur, hv', hb, hg, hr⟩
  · exact .inl hn
  · refine .inr ⟨g, cap, cur, hv', hb, ?_, hr⟩
    have hlt := (Array.getElem?_eq_some_iff.1 hg).1
    rw [ho.block g hlt (hv g (by rw [hv']; rfl))]
    exact hg
theorem row_lt {w : World} {base n : Nat} {t : TypeId} {v : Value} {xs : List Value} (h : w.ownsRow base t 1 v n xs) (k : Nat) (hk : v.ownBlock = some k) : k < w.heap.size ∧ base ≤ k := by
  rcases h.2 with ⟨rfl, _⟩ | ⟨g, cap, cur, rfl, hb, hg, hr⟩
  · simp [Value.ownBlock] at hk
  · simp [Value.ownBlock] at hk
    subst hk
    exact ⟨(Array.getElem?_eq_some_iff.1 hg).1, hb⟩
theorem from_blk {W : World} {B : Nat} {t : TypeId} {cs : Array Value} {n : Nat} (h : Blk W B t cs) (hn : cs.size = n) : From W 1 (.slice (some ⟨B, 0, none⟩) n n) n cs.toList :=
  ⟨_, _, rfl, by simp [hn], fun _ => ⟨_, rfl, World.news_of_block h⟩⟩
section
variable {σ τ : Type} {M : Mach σ} {N : Mach τ} {f1 f2 f3 f4 : FuncId} {m1 m2 : Value} {A1 : World → (Nat → Prop) → σ → Prop} {A2 : World → (Nat → Prop) → τ → Prop} {O1 : σ → Nat → Prop} {O2 : τ → Nat → Prop}
variable {B : Nat} {w0 wr w' : World} {F G : Nat → Prop} {s s' : σ} {t t' : τ}
/-- One object and a row of the call's own. -/
structure ToldAt (ty : TypeId) (v : Value) (n : Nat) (xs : List Value) (B : Nat) (w0 : World) (A1 : World → (Nat → Prop) → σ → Prop) (F : Nat → Prop) (s : σ) (wr : World) : Prop where
  at_ : A1 wr F s
  own : wr.ownsRow B ty 1 v n xs
  far : ∀ k, v.ownBlock = some k → ¬ F k
  lB : ∀ k, F k → B ≤ k
  bel : Below B w0 wr
  size : B ≤ wr.heap.size
variable {ty : TypeId} {v : Value} {n : Nat} {xs : List Value}
theorem ToldAt.moved (T : ToldAt ty v n xs B w0 A1 F s wr) (hm : Moved A1 wr F s' w') : ∃ F', ToldAt ty v n xs B w0 A1 F' s' w' := by
  obtain ⟨F', a, o, f⟩ := hm
  refine ⟨F', a, row_far T.own o T.far, fun k hk hF => ?_, fun k hk => ?_, T.bel.trans ?_, Nat.le_trans T.size o.size⟩
  · rcases f k hF with h | h
    · exact T.far k hk h
    · have := (row_lt T.own k hk).1; omega
  · have := T.size
    rcases f k hk with h | h
    · exact T.lB k h
    · omega
  · exact ⟨o.os, o.tape, o.output, o.size, fun k hk => o.block k (by have := T.size; omega) (fun h => by have := T.lB k h; omega)⟩
theorem ToldAt.read (H1 : IsCoder M f1 f2 m1 A1 O1) (T : ToldAt ty v n xs B w0 A1 F s wr) (o : Only (fun _ => False) wr w') : ToldAt ty v n xs B w0 A1 F s w' :=
  ⟨H1.keep _ _ _ _ _ T.at_ o (fun _ _ h => h), row_far T.own o (fun _ _ h => h), T.far, T.lB, T.bel.trans ⟨o.os, o.tape, o.output, o.size, fun k hk => o.block k (by have := T.size; omega) (fun h => h)⟩, Nat.le_trans T.size o.size⟩
theorem ToldAt.grown (H1 : IsCoder M f1 f2 m1 A1 O1) (T : ToldAt ty v n xs B w0 A1 F s wr) {g cap n' : Nat} {xs' : List Value} (hg : wr.grownBy w' v.ownBlock) (ho : w'.ownsRow B ty 1 (.slice (some ⟨g, 0, none⟩) n' cap) n' xs') (hat : v.ownBlock = some g ∨ g = wr.heap.size) :
    ToldAt ty (.slice (some ⟨g, 0, none⟩) n' cap) n' xs' B w0 A1 F s w' := by
  have o : Only (fun k => v.ownBlock = some k) wr w' := ⟨hg.os, hg.tape, hg.output, hg.size, fun k hk hn => hg.block k hk (fun e => hn e.symm)⟩
  refine ⟨H1.keep _ _ _ _ _ T.at_ o (fun k hk hv => T.far k hv hk), ho, fun k hk hF => ?_, T.lB, T.bel.trans ⟨o.os, o.tape, o.output, o.size, fun k hk => o.block k (by have := T.size; omega) (fun h => by have := (row_lt T.own k h).2; omega)⟩, Nat.le_trans T.size o.size⟩
  simp [Value.ownBlock] at hk
  subst hk
  rcases hat with h | h
  · exact T.far _ h hF
  · have := H1.there _ _ _ _ T.at_ hF; omega
/-- Two objects and a row of the call's own. -/
structure ToldTwo (ty : TypeId) (v : Value) (n : Nat) (xs : List Value) (B : Nat) (w0 : World) (A1 : World → (Nat → Prop) → σ → Prop) (A2 : World → (Nat → Prop) → τ → Prop) (F G : Nat → Prop) (s : σ) (t : τ) (wr : World) : Prop where
  two : TwoAt B w0 A1 A2 F G s t wr
  own : wr.ownsRow B ty 1 v n xs
  nF : ∀ k, v.ownBlock = some k → ¬ F k
  nG : ∀ k, v.ownBlock = some k → ¬ G k
theorem ToldTwo.left (H2 : IsCoder N f3 f4 m2 A2 O2) (T : ToldTwo ty v n xs B w0 A1 A2 F G s t wr) (hm : Moved A1 wr F s' w') : ∃ F', ToldTwo ty v n xs B w0 A1 A2 F' G s' t w' ∧ Only F wr w' ∧ (∀ k, F' k → F k ∨ wr.heap.size ≤ k) := by
  obtain ⟨F', a, o, f⟩ := hm
  refine ⟨F', ⟨⟨a, H2.keep _ _ G F t T.two.r o (fun k hk hf => T.two.dis k hf hk), fun k hk hg => ?_, fun k hk => ?_, T.two.rB, T.two.bel.trans ?_, Nat.le_trans T.two.size o.size⟩, row_far T.own o T.nF, fun k hk hf => ?_, T.nG⟩, o, f⟩
  · rcases f k hk with h | h
    · exact T.two.dis k h hg
    · have := H2.there _ _ _ _ T.two.r hg
      omega
  · have := T.two.size
    rcases f k hk with h | h
    · exact T.two.lB k h
    · omega
  · exact ⟨o.os, o.tape, o.output, o.size, fun k hk => o.block k (by have := T.two.size; omega) (fun h => by have := T.two.lB k h; omega)⟩
  · rcases f k hf with h | h
    · exact T.nF k hk h
    · have := (row_lt T.own k hk).1; omega
theorem ToldTwo.keep {S : Nat → Prop} (H1 : IsCoder M f1 f2 m1 A1 O1) (H2 : IsCoder N f3 f4 m2 A2 O2) (T : ToldTwo ty v n xs B w0 A1 A2 F G s t wr) (o : Only S wr w') (hS : ∀ k, S k → wr.heap.size ≤ k) : ToldTwo ty v n xs B w0 A1 A2 F G s t w' :=
  ⟨T.two.keep H1 H2 o (fun k hk h => by have := H1.there _ _ _ _ T.two.l hk; have := hS k h; omega) (fun k hk h => by have := H2.there _ _ _ _ T.two.r hk; have := hS k h; omega) (fun k hk h => by have := T.two.size; have := hS k h; omega), row_far T.own o (fun k hk h => by have := (row_lt T.own k hk).1; have := hS k h; omega), T.nF, T.nG⟩
theorem ToldTwo.read (H1 : IsCoder M f1 f2 m1 A1 O1) (H2 : IsCoder N f3 f4 m2 A2 O2) (T : ToldTwo ty v n xs B w0 A1 A2 F G s t wr) (o : Only (fun _ => False) wr w') : ToldTwo ty v n xs B w0 A1 A2 F G s t w' :=
  T.keep H1 H2 o (fun _ h => h.elim)
end
theorem info_i64 : (Try.prog.info? 3).map (fun i => (i.zero, i.size, i.bytes)) = some (some (.int .i64 0), 1, 8) := by kernel_rfl
/-- What was told of the first j. -/
def tolds (l : List Oper13) (j : Nat) : List Value := (List.range j).map fun i => .int .i64 (tl l i)
theorem tolds_succ (l : List Oper13) (j : Nat) : tolds l j ++ [.int .i64 (tl l j)] = tolds l (j + 1) := by
  unfold tolds
  rw [List.range_succ, List.map_append]
  rfl
theorem tolds_len (l : List Oper13) (j : Nat) : (tolds l j).length = j := by simp [tolds]
theorem oAt_some (l : List Oper13) (j : Nat) (h : j < l.length) : l[j]? = some (oAt l j) := by
  unfold oAt
  rw [List.getD_eq_getElem?_getD, List.getElem?_eq_getElem h]
  rfl
end Go.Proofs.Ytgdhbmpdicdbpaa
