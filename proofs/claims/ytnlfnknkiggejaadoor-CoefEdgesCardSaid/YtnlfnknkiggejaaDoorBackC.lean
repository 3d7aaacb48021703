/- Plain: what a writer was told a reader tells: one bit. -/
import Derived.Test.YtnlfnknkiggejaaDoorRound
import Derived.Test.YtnlfnknkiggejaaDoorRacNew
namespace Go.Proofs.YtnlfnknkiggejaaDoor

theorem Track.new (f : Enc) : Track f (Dec.new f.bytes) Enc.new := ⟨rfl, rfl, rfl, by show Go.Proofs.YtnlfnknkiggejaaDoor.pre f.bytes 4 + val [0, 0, 0, 0] = _; simp [val, valR]; rfl⟩
theorem Enc.new_V : Enc.new.V = 0 := by show val [0, 0, 0, 0] = 0; simp [val, valR]
theorem fit_new : Enc.new.Fit := ⟨by show 0 ≤ _; omega, by rw [Enc.new_V]; show 0 + 4294967295 ≤ 256 ^ 4; omega⟩

structure GoodW (s : Wr) : Prop where
  P : POk s.P
  r0 : 16777216 ≤ s.e.r
  r1 : s.e.r ≤ 4294967295
  fit : s.e.Fit
structure Tr (f : Enc) (s : Wr) (t : Rd) : Prop where
  P : s.P = t.P
  d : Track f t.d s.e
/-- One operation of a writer, and the like of a reader. -/
def Bk {α : Type} (f : Enc) (s : Wr) (t : Rd) (x : α × Wr) (y : α × Rd) : Prop :=
  GoodW s → Inside s.e x.2.e ∧ GoodW x.2 ∧ (Tr f s t → Inside x.2.e f → x.1 = y.1 ∧ Tr f x.2 y.2)
section
variable {α β : Type} {f : Enc} {s : Wr} {t : Rd}
theorem Bk.ret (a : α) : Bk f s t (a, s) (a, t) := fun h => ⟨Inside.refl _, h, fun ht _ => ⟨rfl, ht⟩⟩
theorem Bk.seq {x : α × Wr} {y : α × Rd} (k : α → Wr → β × Wr) (k' : α → Rd → β × Rd) (h : Bk f s t x y) (hk : ∀ a, Bk f x.2 y.2 (k a x.2) (k' a y.2)) : Bk f s t (k x.1 x.2) (k' y.1 y.2) := by
  intro hs
  obtain ⟨h1, h2, h3⟩ := h hs
  obtain ⟨g1, g2, g3⟩ := hk x.1 h2
  refine ⟨h1.trans g1, g2, fun ht hi => ?_⟩
  obtain ⟨e, ht'⟩ := h3 ht (g1.trans hi)
  have := g3 ht' hi
  rw [← e]
  exact this
theorem Bk.map {x : α × Wr} {y : α × Rd} (g : α → β) (h : Bk f s t x y) : Bk f s t (g x.1, x.2) (g y.1, y.2) := by
  intro hs
  obtain ⟨h1, h2, h3⟩ := h hs
  refine ⟨h1, h2, fun ht hi => ?_⟩
  obtain ⟨e, ht'⟩ := h3 ht hi
  exact ⟨by rw [e], ht'⟩
theorem Bk.bit (hf : 1 ≤ f.r) (c : Nat) (hc : c < 64) (u u' : Bool) : Bk f s t (wrM.bit s c u) (rdM.bit t c u') := by
  intro hs
  have hsh := share_ok (p := s.P.getD c 0) hs.r0 (by have := hs.P.lo c hc; omega) (by have := hs.P.hi c hc; omega)
  have hn := Enc.narrow_fit hs.fit _ hsh.2 hs.r1 u
  have hk := Enc.narrow_ok (e := s.e) (lim := s.e.out.length) ⟨hs.r0, hs.r1, hs.fit.low, Nat.le_refl _⟩ hsh.1 hsh.2 u
  refine ⟨hn.2, ⟨hs.P.learn c hc u, hk.r0, hk.r1, hn.1⟩, fun ht hi => ?_⟩
  have hb := ht.d.narrow hs.fit hf _ hsh.2 hs.r1 u hi
  have ev : t.d.r / 2048 * t.P.getD c 0 = s.e.r / 2048 * s.P.getD c 0 := by rw [ht.d.r, ht.P]
  show u = t.d.bit (t.d.r / 2048 * t.P.getD c 0) ∧ Tr f _ ⟨learnAt t.P c (t.d.bit (t.d.r / 2048 * t.P.getD c 0)), t.d.narrow (t.d.r / 2048 * t.P.getD c 0)⟩
  rw [ev, hb.1]
  exact ⟨rfl, ⟨by show learnAt s.P c u = learnAt t.P c u; rw [ht.P], hb.2⟩⟩
theorem Bk.flat (hf : 1 ≤ f.r) (u u' : Bool) : Bk f s t (wrM.flat s u) (rdM.flat t u') := by
  intro hs
  have h1 : 1 ≤ s.e.r / 2 := by have := hs.r0; omega
  have h2 : s.e.r / 2 < s.e.r := by have := hs.r0; omega
  have hn := Enc.narrow_fit hs.fit _ h2 hs.r1 u
  have hk := Enc.narrow_ok (e := s.e) (lim := s.e.out.length) ⟨hs.r0, hs.r1, hs.fit.low, Nat.le_refl _⟩ h1 h2 u
  refine ⟨hn.2, ⟨hs.P, hk.r0, hk.r1, hn.1⟩, fun ht hi => ?_⟩
  have hb := ht.d.narrow hs.fit hf _ h2 hs.r1 u hi
  have ev : t.d.r / 2 = s.e.r / 2 := by rw [ht.d.r]
  show u = t.d.bit (t.d.r / 2) ∧ Tr f _ ⟨t.P, t.d.narrow (t.d.r / 2)⟩
  rw [ev, hb.1]
  exact ⟨rfl, ⟨ht.P, hb.2⟩⟩
end
end Go.Proofs.YtnlfnknkiggejaaDoor
