/- Arguments opened: bools; slices of ints. -/
import Derived.Test.YtnlfnknkiggejaaDoorOpenEls
import Derived.SizedLaws
namespace Go.Proofs.YtnlfnknkiggejaaDoor
open Go.ChangeShapes Go.WideShapes Go.ChangeAt Go.RowKit Go.Deep
section
variable {H : Type} {enc : TypeId × Value → H} {w : World} {base : Nat} {spare : Nat → Bool} {held : Bool}
def BoolR (b : Bool) (cs : List Value) : Prop := cs = [.bool b]
theorem open_bools {A : Option Addr} {len cap : Nat} {d : DataW H} {p : List MemPlace} (h : DataW.Trod enc Tryd.prog w base spare held 55 (.slice A len cap) d p) :
    ∃ l : List Bool, l.length = len ∧ Els w 1 BoolR (.slice A len cap) l ∧ l.length ≤ maxLen := by
  refine open_gen Tryd.underlying55 (by kernel_rfl) (by omega) BoolR (fun fuel cs x hx hl => ?_) h
  obtain ⟨z, e0, _⟩ := DataW.trod_bool Tryd.underlying4 hx
  exact ⟨z, e0⟩
def IntsR (w : World) (zs : List Int) (cs : List Value) : Prop := ∃ v, cs = [v] ∧ Els w 1 IntR v zs ∧ zs.length ≤ maxLen
theorem open_intss {A : Option Addr} {len cap : Nat} {d : DataW H} {p : List MemPlace} (h : DataW.Trod enc Tryd.prog w base spare held 22 (.slice A len cap) d p) :
    ∃ l : List (List Int), l.length = len ∧ Els w 1 (IntsR w) (.slice A len cap) l ∧ l.length ≤ maxLen := by
  refine open_gen Tryd.underlying22 (by kernel_rfl) (by omega) (IntsR w) (fun fuel cs x hx hl => ?_) h
  obtain ⟨v, rfl⟩ : ∃ v, cs = [v] := by
    match cs, hl with
    | [v], _ => exact ⟨v, rfl⟩
  have hv : ∃ A len cap, v = .slice A len cap := by
    rcases open_slice Tryd.underlying29 hx with ⟨h1, _⟩ | ⟨a, l, c, _, _, _, _, h1, _⟩
    · injection h1 with h1; exact ⟨_, _, _, h1⟩
    · injection h1 with h1; exact ⟨_, _, _, h1⟩
  obtain ⟨A', len', cap', rfl⟩ := hv
  obtain ⟨bs, h1, h2, h3⟩ := open_ints2 (d := x.1) (p := x.2) ⟨fuel, by simpa [Value.cells] using hx⟩
  subst h1
  exact ⟨bs, _, rfl, h2, h3⟩
/-- An argument's bytes are no more than a machine reaches. -/
theorem byt_sized {A : Option Addr} {len cap : Nat} {d : DataW H} {p : List MemPlace} (h : DataW.Trod enc Tryd.prog w base spare held 44 (.slice A len cap) d p) {ts : List TypeId} {ds : List (DataW H)} {j : Nat}
    (hz : (DataW.weightsEach Tryd.prog ts ds).all (· ≤ reachBytes) = true) (ht : ts[j]? = some 44) (hd : ds[j]? = some d) : len ≤ 140737488351232 := by
  obtain ⟨fuel, hf⟩ := h
  rcases open_slice Tryd.underlying44 hf with ⟨hcs, _⟩ | ⟨a, l, c, m, n, D, Pl, hcs, hb, hl, hm, hmm, hx, _⟩
  · simp [Value.cells] at hcs
    obtain ⟨rfl, rfl, rfl⟩ := hcs
    omega
  · simp [Value.cells] at hcs
    obtain ⟨rfl, rfl, rfl⟩ := hcs
    injection hx with hx1 _
    subst hx1
    have h1 := sized_slice hz ht hd Tryd.underlying44
    rw [show Tryd.prog.bytesOf 5 = 1 by kernel_rfl] at h1
    simp only [List.length_map, List.length_range, Nat.mul_one] at h1
    unfold reachBytes at h1
    omega
end
end Go.Proofs.YtnlfnknkiggejaaDoor
