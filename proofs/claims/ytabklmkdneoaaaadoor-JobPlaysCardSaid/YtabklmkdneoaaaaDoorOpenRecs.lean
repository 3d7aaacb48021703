/- Arguments opened: a slice of records. -/
import Derived.Test.YtabklmkdneoaaaaDoorOpenGen
import Derived.Test.YtabklmkdneoaaaaDoorGD
namespace Go.Proofs.YtabklmkdneoaaaaDoor
open Go.ChangeShapes Go.WideShapes Go.ChangeAt Go.RowKit Go.Deep

def RecR (r : RecS) (cs : List Value) : Prop := cs = r.cells
instance : Inhabited RecS := ⟨recZ⟩
section
variable {H : Type} {enc : TypeId × Value → H} {w : World} {base : Nat} {spare : Nat → Bool} {held : Bool}
set_option maxRecDepth 100000 in
theorem rec_of_trod {fuel : Nat} {cs : List Value} {x : DataW H × List MemPlace} (h : DataW.trod enc Tryd.prog w base spare held fuel 73 cs = some x) (hl : cs.length = 5) : ∃ r : RecS, RecR r cs := by
  obtain ⟨ys, n', _, _, _, hyl, hfd⟩ := DataW.trod_struct Tryd.underlying73 h
  have c3 : Tryd.prog.cellsOf 3 = 1 := by kernel_rfl
  have c4 : Tryd.prog.cellsOf 29 = 1 := by kernel_rfl
  match cs, hl with
  | [v0, v1, v2, v3, v4], _ =>
    match ys, hyl with
    | [y0, y1, y2, y3, y4], _ =>
      have g0 := hfd 0 _ rfl
      have g1 := hfd 1 _ rfl
      have g2 := hfd 2 _ rfl
      have g3 := hfd 3 _ rfl
      have g4 := hfd 4 _ rfl
      simp [c3, c4] at g0 g1 g2 g3 g4
      obtain ⟨z0, e0, _, _⟩ := DataW.trod_int Tryd.underlying3 g0
      obtain ⟨z1, e1, _, _⟩ := DataW.trod_int Tryd.underlying3 g1
      obtain ⟨z2, e2, _, _⟩ := DataW.trod_int Tryd.underlying3 g2
      obtain ⟨z3, e3, _, _⟩ := DataW.trod_int Tryd.underlying3 g3
      obtain ⟨z4, e4, _, _⟩ := DataW.trod_int Tryd.underlying29 g4
      simp at e0 e1 e2 e3 e4
      subst e0 e1 e2 e3 e4
      exact ⟨⟨z0, z1, z2, z3, z4⟩, rfl⟩
theorem open_recs {A : Option Addr} {len cap : Nat} {d : DataW H} {p : List MemPlace} (h : DataW.Trod enc Tryd.prog w base spare held 68 (.slice A len cap) d p) :
    ∃ l : List RecS, l.length = len ∧ RdR w (.slice A len cap) l ∧ l.length ≤ maxLen := by
  obtain ⟨l, h1, h2, h3⟩ := open_gen Tryd.underlying68 (by kernel_rfl) (by omega) RecR (fun fuel cs x hx hl => rec_of_trod hx hl) h
  refine ⟨l, h1, ⟨?_⟩, h3⟩
  obtain ⟨A', c', e, hle, hc⟩ := h2
  refine ⟨A', c', e, hle, fun hne => ?_⟩
  obtain ⟨b, off, e4, h4, h5⟩ := hc hne
  refine ⟨b, off, e4, h4, fun i r hr => ?_⟩
  obtain ⟨cs, _, hR, hcell⟩ := h5 i r hr
  have hR' : cs = r.cells := hR
  subst hR'
  exact ⟨hcell 0 _ rfl, hcell 1 _ rfl, hcell 2 _ rfl, hcell 3 _ rfl, hcell 4 _ rfl⟩
end
end Go.Proofs.YtabklmkdneoaaaaDoor
