/- Arguments opened: bools. -/
import Derived.Test.YtgdhbmpdicdbpaaDoorOpen12
import Derived.Test.YtgdhbmpdicdbpaaDoorSizeWalk
namespace Go.Proofs.YtgdhbmpdicdbpaaDoor
open Go.ChangeShapes Go.WideShapes Go.ChangeAt Go.RowKit Go.Deep
section
variable {H : Type} {enc : TypeId × Value → H} {w : World} {base : Nat} {spare : Nat → Bool} {held : Bool}
set_option maxRecDepth 100000 in
theorem open_bools {A : Option Addr} {len cap : Nat} {d : DataW H} {p : List MemPlace} (h : DataW.Trod enc Tryd.prog w base spare held 45 (.slice A len cap) d p) :
    ∃ l : List Bool, l.length = len ∧ BoolsAt w (.slice A len cap) l ∧ l.length ≤ maxLen := by
  obtain ⟨fuel, hf⟩ := h
  rcases open_slice Tryd.underlying45 hf with ⟨hcs, _⟩ | ⟨a, l, c, m, n, D, Pl, hcs, hb, hl, hm, hmm, _, hi⟩
  · simp [Value.cells] at hcs
    obtain ⟨rfl, rfl, rfl⟩ := hcs
    exact ⟨[], rfl, ⟨none, 0, rfl, fun h => absurd rfl h⟩, Nat.zero_le _⟩
  · simp [Value.cells] at hcs
    obtain ⟨rfl, rfl, rfl⟩ := hcs
    have hlm : len ≤ m := by rw [hmm]; split <;> omega
    have h4 : Tryd.prog.cellsOf 4 = 1 := by kernel_rfl
    have hone : ∀ i, i < len → ∃ u : Bool, w.cell? (a.add i) = some (.bool u) := by
      intro i hlt
      obtain ⟨cs', hc, ht⟩ := hi i (by omega)
      rw [h4, Nat.mul_one] at hc
      obtain ⟨_, hcl, hat⟩ := World.cells?_some hc
      match cs', hcl with
      | [v0], _ =>
        obtain ⟨z0, e0, _⟩ := DataW.trod_bool Tryd.underlying4 ht
        simp at e0
        subst e0
        refine ⟨z0, ?_⟩
        have := hat 0 (by omega)
        simpa [Addr.add] using this
    let f : Nat → Bool := fun i => if h : i < len then (hone i h).choose else false
    have hfl : ((List.range len).map f).length = len := by simp
    refine ⟨(List.range len).map f, hfl, ⟨some a, cap, by rw [hfl], fun hne => ?_⟩, by rw [hfl]; omega⟩
    have hlen : 0 < len := by
      rcases Nat.eq_zero_or_pos len with h0 | h0
      · subst h0; exact absurd rfl hne
      · exact h0
    obtain ⟨b, off, spot⟩ := a
    have hspot : spot = none := by
      have := (hone 0 hlen).choose_spec
      simp [Addr.add] at this
      exact World.cell?_spot this
    subst hspot
    have had : ∀ i, (⟨b, off, none⟩ : Addr).add i = ⟨b, off + i, none⟩ := by intro i; unfold Addr.add; split <;> simp_all
    refine ⟨b, off, rfl, ?_, fun i o ho => ?_⟩
    · have := (hone 0 hlen).choose_spec
      have h2 := World.block_lt_of_cell? _ _ this
      simpa [had] using h2
    · have hi' : i < len := by
        have := (List.getElem?_eq_some_iff.1 ho).1
        simpa using this
      have e : ((List.range len).map f)[i]? = some (hone i hi').choose := by
        simp [f, hi']
      rw [e] at ho
      injection ho with ho
      subst ho
      have hs := (hone i hi').choose_spec
      obtain ⟨o, ho⟩ : ∃ o, o = (hone i hi').choose := ⟨_, rfl⟩
      rw [← ho] at hs ⊢
      rw [had] at hs
      exact hs
end
end Go.Proofs.YtgdhbmpdicdbpaaDoor
