/- Arguments opened: the operations of kinlaw13. -/
import Derived.Test.YtgdhbmpdicdbpaaOpenBytes
import Derived.Test.YtgdhbmpdicdbpaaLawReads
namespace Go.Proofs.Ytgdhbmpdicdbpaa
open Go.ChangeShapes Go.WideShapes Go.ChangeAt Go.RowKit Go.Deep

theorem Addr_add_mk (b o i : Nat) : (⟨b, o, none⟩ : Addr).add i = ⟨b, o + i, none⟩ := by unfold Addr.add; split <;> simp_all
section
variable {H : Type} {enc : TypeId × Value → H} {w : World} {base : Nat} {spare : Nat → Bool} {held : Bool}
set_option maxRecDepth 100000 in
theorem open_ops {A : Option Addr} {len cap : Nat} {d : DataW H} {p : List MemPlace} (h : DataW.Trod enc Try.prog w base spare held 23 (.slice A len cap) d p) :
    ∃ l : List Oper13, l.length = len ∧ OpsAt w (.slice A len cap) l ∧ l.length ≤ maxLen := by
  obtain ⟨fuel, hf⟩ := h
  rcases open_slice Try.underlying23 hf with ⟨hcs, _⟩ | ⟨a, l, c, m, n, D, Pl, hcs, hb, hl, hm, hmm, _, hi⟩
  · simp [Value.cells] at hcs
    obtain ⟨rfl, rfl, rfl⟩ := hcs
    exact ⟨[], rfl, ⟨none, 0, rfl, fun h => absurd rfl h⟩, Nat.zero_le _⟩
  · simp [Value.cells] at hcs
    obtain ⟨rfl, rfl, rfl⟩ := hcs
    have hlm : len ≤ m := by rw [hmm]; split <;> omega
    have h4 : Try.prog.cellsOf 32 = 4 := by kernel_rfl
    have hone : ∀ i, i < len → ∃ o : Oper13, w.cell? (a.add (i * 4)) = some (.int .i64 o.kind) ∧ w.cell? ((a.add (i * 4)).add 1) = some (.int .i64 o.c) ∧ w.cell? ((a.add (i * 4)).add 2) = some (.int .i64 o.v) ∧ w.cell? ((a.add (i * 4)).add 3) = some (.bool o.b) := by
      intro i hlt
      obtain ⟨cs', hc, ht⟩ := hi i (by omega)
      rw [h4] at hc
      obtain ⟨_, hcl, hat⟩ := World.cells?_some hc
      obtain ⟨ys, n', _, _, _, hyl, hfd⟩ := DataW.trod_struct Try.underlying32 ht
      have c3 : Try.prog.cellsOf 3 = 1 := by kernel_rfl
      have c4 : Try.prog.cellsOf 4 = 1 := by kernel_rfl
      match cs', hcl with
      | [v0, v1, v2, v3], _ =>
        match ys, hyl with
        | [y0, y1, y2, y3], _ =>
          have g0 := hfd 0 _ rfl
          have g1 := hfd 1 _ rfl
          have g2 := hfd 2 _ rfl
          have g3 := hfd 3 _ rfl
          simp [c3, c4] at g0 g1 g2 g3
          obtain ⟨z0, e0, _, _⟩ := DataW.trod_int Try.underlying3 g0
          obtain ⟨z1, e1, _, _⟩ := DataW.trod_int Try.underlying3 g1
          obtain ⟨z2, e2, _, _⟩ := DataW.trod_int Try.underlying3 g2
          obtain ⟨z3, e3, _⟩ := DataW.trod_bool Try.underlying4 g3
          simp at e0 e1 e2 e3
          subst e0 e1 e2 e3
          refine ⟨⟨z0, z1, z2, z3⟩, ?_, ?_, ?_, ?_⟩
          · have := hat 0 (by omega)
            simpa [Addr.add] using this
          · simpa using hat 1 (by omega)
          · simpa using hat 2 (by omega)
          · simpa using hat 3 (by omega)
    let f : Nat → Oper13 := fun i => if h : i < len then (hone i h).choose else ⟨0, 0, 0, false⟩
    have hfl : ((List.range len).map f).length = len := by simp
    refine ⟨(List.range len).map f, hfl, ⟨some a, cap, by rw [hfl], fun hne => ?_⟩, by rw [hfl]; omega⟩
    have hlen : 0 < len := by
      rcases Nat.eq_zero_or_pos len with h0 | h0
      · subst h0; exact absurd rfl hne
      · exact h0
    obtain ⟨b, off, spot⟩ := a
    have hspot : spot = none := by
      have := (hone 0 hlen).choose_spec.1
      simp [Addr.add] at this
      exact World.cell?_spot this
    subst hspot
    have had : ∀ i, (⟨b, off, none⟩ : Addr).add i = ⟨b, off + i, none⟩ := by intro i; unfold Addr.add; split <;> simp_all
    refine ⟨b, off, rfl, ?_, fun i o ho => ?_⟩
    · have := (hone 0 hlen).choose_spec.1
      have h2 := World.block_lt_of_cell? _ _ this
      simpa [had] using h2
    · have hi' : i < len := by
        have := (List.getElem?_eq_some_iff.1 ho).1
        simpa using this
      have e : ((List.range len).map f)[i]? = some (hone i hi').choose := by
        simp [f, hi']
      rw [e] at ho
      injection ho with ho
      subst ho
      have hs := (hone i hi').choose_spec
      obtain ⟨o, ho⟩ : ∃ o, o = (hone i hi').choose := ⟨_, rfl⟩
      rw [← ho] at hs ⊢
      rw [had, Addr_add_mk, Addr_add_mk, Addr_add_mk] at hs
      have em : off + i * 4 = off + 4 * i := by omega
      simpa [em] using hs
end
end Go.Proofs.Ytgdhbmpdicdbpaa
