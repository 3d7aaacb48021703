/- Arguments opened: a slice whose elements read as something; ints. -/
import Derived.Test.YtnlfnknkiggejaaDoorOpenByt
namespace Go.Proofs.YtnlfnknkiggejaaDoor
open Go.ChangeShapes Go.WideShapes Go.ChangeAt Go.RowKit Go.Deep

/-- The slice x has these elements, of s cells each. -/
def Els {α : Type} (w : World) (s : Nat) (R : α → List Value → Prop) (x : Value) (l : List α) : Prop :=
  ∃ A c, x = .slice A l.length c ∧ l.length ≤ c ∧ (l ≠ [] → ∃ b off, A = some ⟨b, off, none⟩ ∧ b < w.heap.size ∧
    ∀ (i : Nat) (a : α), l[i]? = some a → ∃ cs, cs.length = s ∧ R a cs ∧ ∀ (j : Nat) (u : Value), cs[j]? = some u → w.cell? ⟨b, off + i * s + j, none⟩ = some u)
theorem Els.below {α : Type} {w w' : World} {s : Nat} {R : α → List Value → Prop} {x : Value} {l : List α} (h : Els w s R x l) (hb : Below w.heap.size w w') : Els w' s R x l := by
  obtain ⟨A, c, h1, h2, h3⟩ := h
  refine ⟨A, c, h1, h2, fun h0 => ?_⟩
  obtain ⟨b, off, h4, h5, h6⟩ := h3 h0
  refine ⟨b, off, h4, Nat.lt_of_lt_of_le h5 hb.size, fun i a ha => ?_⟩
  obtain ⟨cs, k1, k2, k3⟩ := h6 i a ha
  exact ⟨cs, k1, k2, fun j u hu => (World.cell?_of_block (w := w) (a := ⟨b, off + i * s + j, none⟩) (hb.block b h5)).trans (k3 j u hu)⟩
theorem Els.mono {α : Type} {w : World} {s : Nat} {R R' : α → List Value → Prop} {x : Value} {l : List α} (h : Els w s R x l) (hR : ∀ a cs, R a cs → R' a cs) : Els w s R' x l := by
  obtain ⟨A, c, h1, h2, h3⟩ := h
  refine ⟨A, c, h1, h2, fun h0 => ?_⟩
  obtain ⟨b, off, h4, h5, h6⟩ := h3 h0
  refine ⟨b, off, h4, h5, fun i a ha => ?_⟩
  obtain ⟨cs, k1, k2, k3⟩ := h6 i a ha
  exact ⟨cs, k1, hR _ _ k2, k3⟩
theorem Els.form {α : Type} {w : World} {s : Nat} {R : α → List Value → Prop} {x : Value} {l : List α} (h : Els w s R x l) : ∃ A c, x = .slice A l.length c ∧ l.length ≤ c := by
  obtain ⟨A, c, h1, h2, _⟩ := h
  exact ⟨A, c, h1, h2⟩
theorem Els.at_ {α : Type} {w : World} {s : Nat} {R : α → List Value → Prop} {A : Option Addr} {n c : Nat} {l : List α} (h : Els w s R (.slice A n c) l) {i : Nat} {a : α} (ha : l[i]? = some a) :
    ∃ b off cs, A = some ⟨b, off, none⟩ ∧ b < w.heap.size ∧ cs.length = s ∧ R a cs ∧ ∀ (j : Nat) (u : Value), cs[j]? = some u → w.cell? ⟨b, off + i * s + j, none⟩ = some u := by
  obtain ⟨A', c', e, _, h3⟩ := h
  injection e with e1 e2 e3
  subst e1
  obtain ⟨b, off, e4, h4, h5⟩ := h3 (by rintro rfl; simp at ha)
  obtain ⟨cs, k1, k2, k3⟩ := h5 i a ha
  exact ⟨b, off, cs, e4, h4, k1, k2, k3⟩
section
variable {H : Type} {enc : TypeId × Value → H} {w : World} {base : Nat} {spare : Nat → Bool} {held : Bool}
theorem open_gen {α : Type} [Inhabited α] {t e : TypeId} {s : Nat} (ht : Tryd.prog.underlying t = some (.slice e)) (hce : Tryd.prog.cellsOf e = s) (hs : 0 < s) (R : α → List Value → Prop)
    (hR : ∀ fuel cs x, DataW.trod enc Tryd.prog w base spare held fuel e cs = some x → cs.length = s → ∃ a, R a cs)
    {A : Option Addr} {len cap : Nat} {d : DataW H} {p : List MemPlace} (h : DataW.Trod enc Tryd.prog w base spare held t (.slice A len cap) d p) :
    ∃ l : List α, l.length = len ∧ Els w s R (.slice A len cap) l ∧ l.length ≤ maxLen := by
  obtain ⟨fuel, hf⟩ := h
  rcases open_slice ht hf with ⟨hcs, _⟩ | ⟨a, l, c, m, n, D, Pl, hcs, hb, hl, hm, hmm, _, hi⟩
  · simp [Value.cells] at hcs
    obtain ⟨rfl, rfl, rfl⟩ := hcs
    exact ⟨[], rfl, ⟨none, 0, rfl, Nat.le_refl _, fun h => absurd rfl h⟩, Nat.zero_le _⟩
  · simp [Value.cells] at hcs
    obtain ⟨rfl, rfl, rfl⟩ := hcs
    have hlm : len ≤ m := by rw [hmm]; split <;> omega
    have hone : ∀ i, i < len → ∃ o : α × List Value, o.2.length = s ∧ R o.1 o.2 ∧ ∀ (j : Nat) (u : Value), o.2[j]? = some u → w.cell? ((a.add (i * s)).add j) = some u := by
      intro i hlt
      obtain ⟨cs', hc, ht⟩ := hi i (by omega)
      rw [hce] at hc
      obtain ⟨_, hcl, hat⟩ := World.cells?_some hc
      obtain ⟨o, ho⟩ := hR _ _ _ ht hcl
      refine ⟨(o, cs'), hcl, ho, fun j u hu => ?_⟩
      have hj : j < s := by rw [← hcl]; exact (List.getElem?_eq_some_iff.1 hu).1
      rw [hat j hj]
      exact hu
    let f : Nat → α := fun i => if h : i < len then (hone i h).choose.1 else default
    have hfl : ((List.range len).map f).length = len := by simp
    refine ⟨(List.range len).map f, hfl, ⟨some a, cap, by rw [hfl], by rw [hfl]; omega, fun hne => ?_⟩, by rw [hfl]; omega⟩
    have hlen : 0 < len := by
      rcases Nat.eq_zero_or_pos len with h0 | h0
      · subst h0; exact absurd rfl hne
      · exact h0
    have hzero : ∀ i (h : i < len), ∃ u, w.cell? ((a.add (i * s)).add 0) = some u := by
      intro i h
      obtain ⟨o, h1, h2, h3⟩ := hone i h
      exact ⟨o.2[0], h3 0 _ (List.getElem?_eq_getElem (by omega))⟩
    obtain ⟨b, off, spot⟩ := a
    have hspot : spot = none := by
      obtain ⟨u, this⟩ := hzero 0 hlen
      simp [Addr.add] at this
      exact World.cell?_spot this
    subst hspot
    have had : ∀ b o i, (⟨b, o, none⟩ : Addr).add i = ⟨b, o + i, none⟩ := by intro b o i; unfold Addr.add; split <;> simp_all
    refine ⟨b, off, rfl, ?_, fun i o ho => ?_⟩
    · obtain ⟨u, this⟩ := hzero 0 hlen
      have h2 := World.block_lt_of_cell? _ _ this
      simpa [had] using h2
    · have hi' : i < len := by
        have := (List.getElem?_eq_some_iff.1 ho).1
        simpa using this
      have e : ((List.range len).map f)[i]? = some (hone i hi').choose.1 := by
        simp [f, hi']
      rw [e] at ho
      injection ho with ho
      subst ho
      obtain ⟨h1, h2, h3⟩ := (hone i hi').choose_spec
      refine ⟨(hone i hi').choose.2, h1, h2, fun j u hu => ?_⟩
      have := h3 j u hu
      rw [had, had] at this
      exact this
/-! ### ints -/
def IntR (z : Int) (cs : List Value) : Prop := cs = [.int .i64 z] ∧ (Lit.int .i64 z).wf = true
theorem open_ints2 {A : Option Addr} {len cap : Nat} {d : DataW H} {p : List MemPlace} (h : DataW.Trod enc Tryd.prog w base spare held 29 (.slice A len cap) d p) :
    ∃ l : List Int, l.length = len ∧ Els w 1 IntR (.slice A len cap) l ∧ l.length ≤ maxLen := by
  refine open_gen Tryd.underlying29 (by kernel_rfl) (by omega) IntR (fun fuel cs x hx hl => ?_) h
  obtain ⟨z, e0, _, hw⟩ := DataW.trod_int Tryd.underlying3 hx
  exact ⟨z, e0, hw⟩
end
end Go.Proofs.YtnlfnknkiggejaaDoor
