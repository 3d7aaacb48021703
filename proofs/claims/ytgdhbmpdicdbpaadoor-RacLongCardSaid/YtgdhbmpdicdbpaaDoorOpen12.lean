/- Arguments opened: the operations of kinlaw12; what the row lays of package errors. -/
import Derived.Test.YtgdhbmpdicdbpaaDoorRows
import Derived.Test.YtgdhbmpdicdbpaaDoorLawZeros
import Derived.ChangeSame
import Derived.ChangeVars
import Derived.JoinedOf
import Derived.RowKit
import Derived.RowKitTokens
import Derived.LaidLaws
import Derived.LaidHandle
import Derived.Stop.Joined
import Derived.ProofKit
import Derived.OpenShut
import Derived.ChangeOld
import Derived.Deep.Slices
import Derived.Deep.Fields
namespace Go.Proofs.YtgdhbmpdicdbpaaDoor
open Go.ChangeShapes Go.WideShapes Go.ChangeAt Go.RowKit Go.Deep

theorem Addr_add_mk2 (b o i : Nat) : (⟨b, o, none⟩ : Addr).add i = ⟨b, o + i, none⟩ := by unfold Addr.add; split <;> simp_all
section
variable {H : Type} {enc : TypeId × Value → H} {w : World} {base : Nat} {spare : Nat → Bool} {held : Bool}
set_option maxRecDepth 100000 in
theorem open_ops {A : Option Addr} {len cap : Nat} {d : DataW H} {p : List MemPlace} (h : DataW.Trod enc Tryd.prog w base spare held 22 (.slice A len cap) d p) :
    ∃ l : List Op12, l.length = len ∧ OpsAt12 w (.slice A len cap) l ∧ l.length ≤ maxLen := by
  obtain ⟨fuel, hf⟩ := h
  rcases open_slice Tryd.underlying22 hf with ⟨hcs, _⟩ | ⟨a, l, c, m, n, D, Pl, hcs, hb, hl, hm, hmm, _, hi⟩
  · simp [Value.cells] at hcs
    obtain ⟨rfl, rfl, rfl⟩ := hcs
    exact ⟨[], rfl, ⟨none, 0, rfl, fun h => absurd rfl h⟩, Nat.zero_le _⟩
  · simp [Value.cells] at hcs
    obtain ⟨rfl, rfl, rfl⟩ := hcs
    have hlm : len ≤ m := by rw [hmm]; split <;> omega
    have h4 : Tryd.prog.cellsOf 29 = 2 := by kernel_rfl
    have hone : ∀ i, i < len → ∃ o : Op12, w.cell? (a.add (i * 2)) = some (.int .i64 o.p) ∧ w.cell? ((a.add (i * 2)).add 1) = some (.bool o.b) := by
      intro i hlt
      obtain ⟨cs', hc, ht⟩ := hi i (by omega)
      rw [h4] at hc
      obtain ⟨_, hcl, hat⟩ := World.cells?_some hc
      obtain ⟨ys, n', _, _, _, hyl, hfd⟩ := DataW.trod_struct Tryd.underlying29 ht
      have c3 : Tryd.prog.cellsOf 3 = 1 := by kernel_rfl
      have c4 : Tryd.prog.cellsOf 4 = 1 := by kernel_rfl
      match cs', hcl with
      | [v0, v1], _ =>
        match ys, hyl with
        | [y0, y1], _ =>
          have g0 := hfd 0 _ rfl
          have g1 := hfd 1 _ rfl
          simp [c3, c4] at g0 g1
          obtain ⟨z0, e0, _, _⟩ := DataW.trod_int Tryd.underlying3 g0
          obtain ⟨z1, e1, _⟩ := DataW.trod_bool Tryd.underlying4 g1
          simp at e0 e1
          subst e0 e1
          refine ⟨⟨z0, z1⟩, ?_, ?_⟩
          · have := hat 0 (by omega)
            simpa [Addr.add] using this
          · simpa using hat 1 (by omega)
    let f : Nat → Op12 := fun i => if h : i < len then (hone i h).choose else ⟨0, false⟩
    have hfl : ((List.range len).map f).length = len := by simp
    refine ⟨(List.range len).map f, hfl, ⟨some a, cap, by rw [hfl], fun hne => ?_⟩, by rw [hfl]; omega⟩
    have hlen : 0 < len := by
      rcases Nat.eq_zero_or_pos len with h0 | h0
      · subst h0; exact absurd rfl hne
      · exact h0
    obtain ⟨b, off, spot⟩ := a
    have hspot : spot = none := by
      have := (hone 0 hlen).choose_spec.1
      simp [Addr.add] at this
      exact World.cell?_spot this
    subst hspot
    have had : ∀ i, (⟨b, off, none⟩ : Addr).add i = ⟨b, off + i, none⟩ := by intro i; unfold Addr.add; split <;> simp_all
    refine ⟨b, off, rfl, ?_, fun i o ho => ?_⟩
    · have := (hone 0 hlen).choose_spec.1
      have h2 := World.block_lt_of_cell? _ _ this
      simpa [had] using h2
    · have hi' : i < len := by
        have := (List.getElem?_eq_some_iff.1 ho).1
        simpa using this
      have e : ((List.range len).map f)[i]? = some (hone i hi').choose := by
        simp [f, hi']
      rw [e] at ho
      injection ho with ho
      subst ho
      have hs := (hone i hi').choose_spec
      obtain ⟨o, ho⟩ : ∃ o, o = (hone i hi').choose := ⟨_, rfl⟩
      rw [← ho] at hs ⊢
      rw [had, Addr_add_mk2] at hs
      exact hs
end

/-! ### What the rows lay -/
def laidHere : List (String × DataW Unit) := [("errors.errorType", Rows.laid_errors_errorType)]
theorem ownH : ownKnob Tryd.prog.godebug = none := by kernel_rfl
theorem laidOutH : laidOutB Tryd.prog = true := by kernel_rfl
theorem etH : Tryd.prog.globalNamed "errors.errorType" = some 0 := by kernel_rfl
theorem rtH : (Tryd.prog.cutTypes.find? (·.1 == "internal/reflectlite.rtype")).map (·.2) = some 101 := by kernel_rfl
theorem oneRowH : ((List.range Tryd.prog.types.size).filter fun t => Tryd.prog.rowNamed t [101, 114, 114, 111, 114]) = [33] := by kernel_rfl
theorem errT_of_laid {W : World} (h : laidMetH Tryd.prog laidHere W) : ErrT W := by
  have h' : laidMet Tryd.prog [] W ∧ handlesMet Tryd.prog laidHere W := h
  obtain ⟨name, u, ty, e1, e2, e3, e4, e5⟩ := h'.2 _ (List.mem_singleton.2 rfl)
  have en : name = [101, 114, 114, 111, 114] := (Option.some.inj e1).symm
  subst en
  obtain rfl := Option.some.inj (rtH.symm.trans e2)
  have hm : ty ∈ (List.range Tryd.prog.types.size).filter fun t => Tryd.prog.rowNamed t [101, 114, 114, 111, 114] := List.mem_filter.2 ⟨List.mem_range.2 e3, e4⟩
  rw [oneRowH] at hm
  obtain rfl := List.mem_singleton.1 hm
  have hh : typeHandle Tryd.prog 33 = .pointer (some ⟨1, 33, none⟩) := by kernel_rfl
  rw [hh] at e5
  have := World.var?_cell etH e5 0
  unfold ErrT
  simpa using this
/-- A world that meets the condition. -/
noncomputable def laidWorld (os : Os) : World :=
  let w0 := World.holding Tryd.prog os ⟨#[], #[], []⟩
  { w0 with heap := w0.heap.modify 0 fun
      | .cells _ t frozen => .cells #[.iface 101 (.agg #[.pointer (some ⟨1, 33, none⟩)])] t frozen
      | o => o }
theorem laidWorld_met (os : Os) (args : Array Value) : laidMetH Tryd.prog laidHere ((laidWorld os).forCall (fun _ _ => 0) ⟨#[], args, []⟩).memory :=
  laidMetH_of_parts (laidMet_nil _ _) (by kernel_rfl)
end Go.Proofs.YtgdhbmpdicdbpaaDoor
