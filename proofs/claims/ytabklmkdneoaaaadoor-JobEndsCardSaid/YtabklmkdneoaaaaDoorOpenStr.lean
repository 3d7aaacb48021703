/- Arguments opened: structs by value: a record, a unit, a configuration. -/
import Derived.Test.YtabklmkdneoaaaaDoorOpenRecs
namespace Go.Proofs.YtabklmkdneoaaaaDoor
open Go.ChangeShapes Go.WideShapes Go.ChangeAt Go.RowKit Go.Deep

section
variable {H : Type} {enc : TypeId × Value → H} {w : World} {base : Nat} {spare : Nat → Bool} {held : Bool}
set_option maxRecDepth 100000 in
theorem open_rec {r : Reach} {b0 : Nat} {v : Value} {d : DataW H} {p : List MemPlace} (hw : Value.okWide Tryd.prog w r b0 73 v) (h : DataW.Trod enc Tryd.prog w base spare held 73 v d p) : ∃ a : RecS, v = a.val := by
  obtain ⟨cs, rfl, hs⟩ := okWide_struct Tryd.underlying73 hw
  have h5 : Tryd.prog.cellsOf 73 = 5 := by kernel_rfl
  obtain ⟨fuel, hf⟩ := h
  obtain ⟨a, ha⟩ := rec_of_trod hf (by simp [Value.cells]; omega)
  refine ⟨a, ?_⟩
  have e : cs.toList = a.cells := ha
  unfold RecS.val
  congr 1
  have h2 : cs = cs.toList.toArray := by simp
  rw [h2, e]
  rfl
set_option maxRecDepth 100000 in
theorem open_unit {r : Reach} {b0 : Nat} {v : Value} {d : DataW H} {p : List MemPlace} (hw : Value.okWide Tryd.prog w r b0 35 v) (h : DataW.Trod enc Tryd.prog w base spare held 35 v d p) :
    ∃ (k a z : Int) (x : Value) (bs : List UInt8), v = .agg #[.int .i64 k, x, .int .i64 a, .int .i64 z] ∧ Byt w x bs ∧ bs.length ≤ maxLen := by
  obtain ⟨cs, rfl, hs⟩ := okWide_struct Tryd.underlying35 hw
  have h5 : Tryd.prog.cellsOf 35 = 4 := by kernel_rfl
  obtain ⟨fuel, hf⟩ := h
  have hcl : cs.toList.length = 4 := by simp; omega
  rw [show (Value.agg cs).cells.toList = cs.toList from rfl] at hf
  obtain ⟨ys, n', _, _, _, hyl, hfd⟩ := DataW.trod_struct Tryd.underlying35 hf
  have c3 : Tryd.prog.cellsOf 3 = 1 := by kernel_rfl
  have c4 : Tryd.prog.cellsOf 23 = 1 := by kernel_rfl
  obtain ⟨l, hl⟩ : ∃ l, l = cs.toList := ⟨_, rfl⟩
  have hcs : cs = l.toArray := by rw [hl]
  rw [← hl] at hcl hfd
  clear hf hs hw hl
  match l, hcl with
  | [v0, v1, v2, v3], _ =>
    match ys, hyl with
    | [y0, y1, y2, y3], _ =>
      have g0 := hfd 0 _ rfl
      have g1 := hfd 1 _ rfl
      have g2 := hfd 2 _ rfl
      have g3 := hfd 3 _ rfl
      simp [c3, c4] at g0 g1 g2 g3
      obtain ⟨z0, e0, _, _⟩ := DataW.trod_int Tryd.underlying3 g0
      obtain ⟨z2, e2, _, _⟩ := DataW.trod_int Tryd.underlying3 g2
      obtain ⟨z3, e3, _, _⟩ := DataW.trod_int Tryd.underlying3 g3
      simp at e0 e2 e3
      subst e0 e2 e3
      have hv : ∃ A len cap, v1 = .slice A len cap := by
        rcases open_slice Tryd.underlying23 g1 with ⟨h1, _⟩ | ⟨a, l, c, _, _, _, _, h1, _⟩
        · injection h1 with h1; exact ⟨_, _, _, h1⟩
        · injection h1 with h1; exact ⟨_, _, _, h1⟩
      obtain ⟨A', len', cap', rfl⟩ := hv
      obtain ⟨bs, h1, h2, h3⟩ := open_byt (d := y1.1) (p := y1.2) ⟨n', by simpa [Value.cells] using g1⟩
      subst h1
      exact ⟨z0, z2, z3, _, bs, by rw [hcs], h2, h3⟩
/-- A configuration. -/
structure ConfS where
  qmin : Int
  qmax : Int
  reach : Int
  cut : Int
  gop : Int
  rate : Int
  room : Int
  fill : Int
deriving DecidableEq
def ConfS.val (c : ConfS) : Value := .agg #[.int .i64 c.qmin, .int .i64 c.qmax, .int .i64 c.reach, .int .i64 c.cut, .int .i64 c.gop, .int .i64 c.rate, .int .i64 c.room, .int .i64 c.fill]
set_option maxRecDepth 100000 in
theorem open_config {r : Reach} {b0 : Nat} {v : Value} {d : DataW H} {p : List MemPlace} (hw : Value.okWide Tryd.prog w r b0 116 v) (h : DataW.Trod enc Tryd.prog w base spare held 116 v d p) :
    ∃ c : ConfS, v = c.val := by
  obtain ⟨cs, rfl, hs⟩ := okWide_struct Tryd.underlying116 hw
  have h5 : Tryd.prog.cellsOf 116 = 8 := by kernel_rfl
  obtain ⟨fuel, hf⟩ := h
  have hcl : cs.toList.length = 8 := by simp; omega
  rw [show (Value.agg cs).cells.toList = cs.toList from rfl] at hf
  obtain ⟨ys, n', _, _, _, hyl, hfd⟩ := DataW.trod_struct Tryd.underlying116 hf
  have c3 : Tryd.prog.cellsOf 3 = 1 := by kernel_rfl
  obtain ⟨l, hl⟩ : ∃ l, l = cs.toList := ⟨_, rfl⟩
  have hcs : cs = l.toArray := by rw [hl]
  rw [← hl] at hcl hfd
  clear hf hs hw hl
  match l, hcl with
  | [v0, v1, v2, v3, v4, v5, v6, v7], _ =>
    match ys, hyl with
    | [y0, y1, y2, y3, y4, y5, y6, y7], _ =>
      have g0 := hfd 0 _ rfl
      have g1 := hfd 1 _ rfl
      have g2 := hfd 2 _ rfl
      have g3 := hfd 3 _ rfl
      have g4 := hfd 4 _ rfl
      have g5 := hfd 5 _ rfl
      have g6 := hfd 6 _ rfl
      have g7 := hfd 7 _ rfl
      simp [c3] at g0 g1 g2 g3 g4 g5 g6 g7
      obtain ⟨z0, e0, _, _⟩ := DataW.trod_int Tryd.underlying3 g0
      obtain ⟨z1, e1, _, _⟩ := DataW.trod_int Tryd.underlying3 g1
      obtain ⟨z2, e2, _, _⟩ := DataW.trod_int Tryd.underlying3 g2
      obtain ⟨z3, e3, _, _⟩ := DataW.trod_int Tryd.underlying3 g3
      obtain ⟨z4, e4, _, _⟩ := DataW.trod_int Tryd.underlying3 g4
      obtain ⟨z5, e5, _, _⟩ := DataW.trod_int Tryd.underlying3 g5
      obtain ⟨z6, e6, _, _⟩ := DataW.trod_int Tryd.underlying3 g6
      obtain ⟨z7, e7, _, _⟩ := DataW.trod_int Tryd.underlying3 g7
      simp at e0 e1 e2 e3 e4 e5 e6 e7
      subst e0 e1 e2 e3 e4 e5 e6 e7
      exact ⟨⟨z0, z1, z2, z3, z4, z5, z6, z7⟩, by rw [hcs]; rfl⟩
end
end Go.Proofs.YtabklmkdneoaaaaDoor
