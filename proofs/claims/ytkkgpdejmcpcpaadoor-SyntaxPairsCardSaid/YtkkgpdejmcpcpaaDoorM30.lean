/- Parts: XOpenHead. -/
import Derived.Test.YtkkgpdejmcpcpaaDoorM29
/- Arguments opened: a head, a coded frame. -/
namespace Go.Proofs.YtkkgpdejmcpcpaaDoor
open Go.ChangeShapes Go.WideShapes Go.ChangeAt Go.RowKit Go.Deep

section
variable {H : Type} {enc : TypeId × Value → H} {w : World} {base : Nat} {spare : Nat → Bool} {held : Bool}
set_option maxRecDepth 100000 in
theorem open_head {r : Reach} {b0 : Nat} {v : Value} {d : DataW H} {p : List MemPlace} (hw : Value.okWide Tryd.prog w r b0 24 v) (h : DataW.Trod enc Tryd.prog w base spare held 24 v d p) :
    ∃ (k q : Int) (x : Value) (bs : List UInt8), v = .agg #[.int .i64 k, .int .i64 q, x] ∧ Byt w x bs ∧ bs.length ≤ maxLen := by
  obtain ⟨cs, rfl, hs⟩ := okWide_struct Tryd.underlying24 hw
  have h5 : Tryd.prog.cellsOf 24 = 3 := by kernel_rfl
  obtain ⟨fuel, hf⟩ := h
  have hcl : cs.toList.length = 3 := by simp; omega
  rw [show (Value.agg cs).cells.toList = cs.toList from rfl] at hf
  obtain ⟨ys, n', _, _, _, hyl, hfd⟩ := DataW.trod_struct Tryd.underlying24 hf
  have c3 : Tryd.prog.cellsOf 3 = 1 := by kernel_rfl
  have c4 : Tryd.prog.cellsOf 22 = 1 := by kernel_rfl
  obtain ⟨l, hl⟩ : ∃ l, l = cs.toList := ⟨_, rfl⟩
  have hcs : cs = l.toArray := by rw [hl]
  rw [← hl] at hcl hfd
  clear hf hs hw hl
  match l, hcl with
  | [v0, v1, v2], _ =>
    match ys, hyl with
    | [y0, y1, y2], _ =>
      have g0 := hfd 0 _ rfl
      have g1 := hfd 1 _ rfl
      have g2 := hfd 2 _ rfl
      simp [c3, c4] at g0 g1 g2
      obtain ⟨z0, e0, _, _⟩ := DataW.trod_int Tryd.underlying3 g0
      obtain ⟨z1, e1, _, _⟩ := DataW.trod_int Tryd.underlying3 g1
      simp at e0 e1
      subst e0 e1
      have hv : ∃ A len cap, v2 = .slice A len cap := by
        rcases open_slice Tryd.underlying22 g2 with ⟨h1, _⟩ | ⟨a, l, c, _, _, _, _, h1, _⟩
        · injection h1 with h1; exact ⟨_, _, _, h1⟩
        · injection h1 with h1; exact ⟨_, _, _, h1⟩
      obtain ⟨A', len', cap', rfl⟩ := hv
      obtain ⟨bs, h1, h2, h3⟩ := open_byt (d := y2.1) (p := y2.2) ⟨n', by simpa [Value.cells] using g2⟩
      subst h1
      exact ⟨z0, z1, _, bs, by rw [hcs], h2, h3⟩
set_option maxRecDepth 100000 in
theorem open_coded {r : Reach} {b0 : Nat} {v : Value} {d : DataW H} {p : List MemPlace} (hw : Value.okWide Tryd.prog w r b0 26 v) (h : DataW.Trod enc Tryd.prog w base spare held 26 v d p) :
    ∃ (k : Int) (x : Value) (bs : List UInt8), v = .agg #[.int .i64 k, x] ∧ Byt w x bs ∧ bs.length ≤ maxLen := by
  obtain ⟨cs, rfl, hs⟩ := okWide_struct Tryd.underlying26 hw
  have h5 : Tryd.prog.cellsOf 26 = 2 := by kernel_rfl
  obtain ⟨fuel, hf⟩ := h
  have hcl : cs.toList.length = 2 := by simp; omega
  rw [show (Value.agg cs).cells.toList = cs.toList from rfl] at hf
  obtain ⟨ys, n', _, _, _, hyl, hfd⟩ := DataW.trod_struct Tryd.underlying26 hf
  have c3 : Tryd.prog.cellsOf 3 = 1 := by kernel_rfl
  have c4 : Tryd.prog.cellsOf 22 = 1 := by kernel_rfl
  obtain ⟨l, hl⟩ : ∃ l, l = cs.toList := ⟨_, rfl⟩
  have hcs : cs = l.toArray := by rw [hl]
  rw [← hl] at hcl hfd
  clear hf hs hw hl
  match l, hcl with
  | [v0, v1], _ =>
    match ys, hyl with
    | [y0, y1], _ =>
      have g0 := hfd 0 _ rfl
      have g1 := hfd 1 _ rfl
      simp [c3, c4] at g0 g1
      obtain ⟨z0, e0, _, _⟩ := DataW.trod_int Tryd.underlying3 g0
      simp at e0
      subst e0
      have hv : ∃ A len cap, v1 = .slice A len cap := by
        rcases open_slice Tryd.underlying22 g1 with ⟨h1, _⟩ | ⟨a, l, c, _, _, _, _, h1, _⟩
        · injection h1 with h1; exact ⟨_, _, _, h1⟩
        · injection h1 with h1; exact ⟨_, _, _, h1⟩
      obtain ⟨A', len', cap', rfl⟩ := hv
      obtain ⟨bs, h1, h2, h3⟩ := open_byt (d := y1.1) (p := y1.2) ⟨n', by simpa [Value.cells] using g1⟩
      subst h1
      exact ⟨z0, _, bs, by rw [hcs], h2, h3⟩
end
end Go.Proofs.YtkkgpdejmcpcpaaDoor

