/- fault.Path at an error with a path. -/
import Derived.Test.YtabklmkdneoaaaaDoorErrPath2
namespace Go.Proofs.YtabklmkdneoaaaaDoor
open Go.RowKit

theorem info_step : (Tryd.prog.info? 126).map (fun i => (i.zero, i.size, i.bytes)) = some (some (.agg #[.string ⟨#[]⟩, .int .i64 0]), 2, 24) := by kernel_rfl
def stepCells (q : PathS) : List Value := q.flatMap fun a => [.string a.1, .int .i64 a.2]
theorem stepCells_append (q r : PathS) : stepCells (q ++ r) = stepCells q ++ stepCells r := List.flatMap_append
theorem stepCells_len (q : PathS) : (stepCells q).length = q.length * 2 := by
  induction q with
  | nil => rfl
  | cons a q ih => unfold stepCells at *; rw [List.flatMap_cons, List.length_append, ih]; simp; omega
theorem stepCells_at (q : PathS) : ∀ (i : Nat) (a : ByteArray × Int), q[i]? = some a → (stepCells q)[i * 2]? = some (.string a.1) ∧ (stepCells q)[i * 2 + 1]? = some (.int .i64 a.2) := by
  induction q with
  | nil => intro i a h; simp at h
  | cons b q ih =>
    intro i a h
    have e : stepCells (b :: q) = .string b.1 :: .int .i64 b.2 :: stepCells q := rfl
    rw [e]
    cases i with
    | zero =>
      simp at h
      subst h
      exact ⟨rfl, rfl⟩
    | succ i =>
      have := ih i a (by simpa using h)
      rw [show (i + 1) * 2 = i * 2 + 1 + 1 by omega]
      simpa using this
theorem blk_from2 {w : World} {g : Nat} {t : TypeId} {cs : Array Value} {c m : Nat} (h : Blk w g t cs) (hs : cs.size = m * 2) : From w 2 (.slice (some ⟨g, 0, none⟩) m c) m cs.toList := by
  refine ⟨_, _, rfl, by simpa using hs, fun _ => ⟨_, rfl, fun j u hu => ?_⟩⟩
  have : ((⟨g, 0, none⟩ : Addr).add j) = ⟨g, j, none⟩ := by unfold Addr.add; split <;> simp_all
  rw [this, h.cell]
  simpa using hu
/-- What holds while a path is told. -/
structure PathRel (w : World) (c : Int) (q pre r : PathS) (lv ev : Value) (wr : World) : Prop where
  eq : q = pre ++ r
  own : wr.ownsRow (w.heap.size + 1) 126 2 lv pre.length (stepCells pre)
  ev : ErrV wr c r ev
  bel : Below w.heap.size w wr
  box : ∃ z, Blk wr w.heap.size 151 #[z]
  et : ErrT wr
theorem own_keep2 {w w' : World} {S : Nat → Prop} {B size n : Nat} {t : TypeId} {v : Value} {xs : List Value} (h : w.ownsRow B t size v n xs) (ho : Only S w w') (hv : ∀ k, v.ownBlock = some k → ¬ S k) : w'.ownsRow B t size v n xs := by
  refine ⟨h.1, ?_⟩
  rcases h.2 with hn | ⟨g, cap, cur, hv', hb, hg, hr⟩
  · exact .inl hn
  · refine .inr ⟨g, cap, cur, hv', hb, ?_, hr⟩
    have hlt := (Array.getElem?_eq_some_iff.1 hg).1
    rw [ho.block g hlt (hv g (by rw [hv']; rfl))]
    exact hg
theorem ErrV.only {w w' : World} {S : Nat → Prop} {c : Int} (ho : Only S w w') (hS : ∀ k cs, S k → ¬ Blk w k 154 cs) : ∀ {q : PathS} {v : Value}, ErrV w c q v → ErrV w' c q v := by
  intro q
  induction q with
  | nil => intro v h; exact h
  | cons a r ih =>
    obtain ⟨s, p⟩ := a
    rintro v ⟨fb, inner, h1, h2, h3⟩
    exact ⟨fb, inner, h1, h2.keep ho (fun hs => hS fb _ hs h2), ih h3⟩
/-- The slice v reads as these steps. -/
def Steps (w : World) (v : Value) (q : PathS) : Prop :=
  ∃ A c, v = .slice A q.length c ∧ (q ≠ [] → ∃ b off, A = some ⟨b, off, none⟩ ∧ b < w.heap.size ∧ ∀ (i : Nat) (a : ByteArray × Int), q[i]? = some a →
    w.cell? ⟨b, off + i * 2, none⟩ = some (.string a.1) ∧ w.cell? ⟨b, off + i * 2 + 1, none⟩ = some (.int .i64 a.2))
theorem Steps.keep {w w' : World} {v : Value} {q : PathS} (h : Steps w v q) (hs : w.heap.size ≤ w'.heap.size) (hk : ∀ k, k < w.heap.size → w'.heap[k]? = w.heap[k]?) : Steps w' v q := by
  obtain ⟨A, c, h1, h2⟩ := h
  refine ⟨A, c, h1, fun hne => ?_⟩
  obtain ⟨b, off, h3, h4, h5⟩ := h2 hne
  refine ⟨b, off, h3, by omega, fun i a ha => ?_⟩
  obtain ⟨h6, h7⟩ := h5 i a ha
  exact ⟨(World.cell?_of_block (w := w) (a := ⟨b, _, none⟩) (hk b h4)).trans h6, (World.cell?_of_block (w := w) (a := ⟨b, _, none⟩) (hk b h4)).trans h7⟩
theorem Steps.below {w w' : World} {v : Value} {q : PathS} (h : Steps w v q) (hb : Below w.heap.size w w') : Steps w' v q := h.keep hb.size hb.block
theorem Steps.only {w w' : World} {S : Nat → Prop} {v : Value} {q : PathS} (h : Steps w v q) (ho : Only S w w') (hv : ∀ k, v.ownBlock = some k → ¬ S k) : Steps w' v q := by
  obtain ⟨A, c, rfl, h2⟩ := h
  refine ⟨A, c, rfl, fun hne => ?_⟩
  obtain ⟨b, off, rfl, h4, h5⟩ := h2 hne
  refine ⟨b, off, rfl, Nat.lt_of_lt_of_le h4 ho.size, fun i a ha => ?_⟩
  obtain ⟨h6, h7⟩ := h5 i a ha
  have hk := ho.block b h4 (hv b rfl)
  exact ⟨(World.cell?_of_block (w := w) (a := ⟨b, _, none⟩) hk).trans h6, (World.cell?_of_block (w := w) (a := ⟨b, _, none⟩) hk).trans h7⟩
theorem Steps.nil (w : World) (c : Nat) : Steps w (.slice none 0 c) [] := ⟨none, c, rfl, fun h => absurd rfl h⟩
theorem steps_of_own {w : World} {B : Nat} {t : TypeId} {v : Value} {q : PathS} (h : w.ownsRow B t 2 v q.length (stepCells q)) : Steps w v q := by
  rcases h.2 with ⟨rfl, h0⟩ | ⟨g, cap, cur, rfl, _, hg, _⟩
  · rw [List.eq_nil_of_length_eq_zero h0]
    exact Steps.nil w 0
  · refine ⟨some ⟨g, 0, none⟩, cap, rfl, fun _ => ⟨g, 0, rfl, (Array.getElem?_eq_some_iff.1 hg).1, fun i a ha => ?_⟩⟩
    obtain ⟨h1, h2⟩ := stepCells_at q i a ha
    have hi := (List.getElem?_eq_some_iff.1 ha).1
    rw [Nat.zero_add]
    exact ⟨(h.cellAt (i * 2) (by omega)).trans h1, (h.cellAt (i * 2 + 1) (by omega)).trans h2⟩
theorem Steps.at_ {w : World} {A : Option Addr} {c : Nat} {q : PathS} (h : Steps w (.slice A q.length c) q) (i : Nat) (hi : i < q.length) :
    ∃ b off a, A = some ⟨b, off, none⟩ ∧ b < w.heap.size ∧ q[i]? = some a ∧ w.cell? ⟨b, off + i * 2, none⟩ = some (.string a.1) ∧ w.cell? ⟨b, off + i * 2 + 1, none⟩ = some (.int .i64 a.2) := by
  obtain ⟨A', c', e, h2⟩ := h
  injection e with e1 e2 e3
  subst e1
  obtain ⟨b, off, h3, h4, h5⟩ := h2 (by rintro rfl; simp at hi)
  obtain ⟨h6, h7⟩ := h5 i q[i] (List.getElem?_eq_getElem hi)
  exact ⟨b, off, q[i], h3, h4, List.getElem?_eq_getElem hi, h6, h7⟩
end Go.Proofs.YtabklmkdneoaaaaDoor
