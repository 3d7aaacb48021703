/- kinref.Ints: two lists of ints that are alike. -/
import Derived.Test.YtnlfnknkiggejaaDoorUMem
import Derived.BigQuiet
namespace Go.Proofs.YtnlfnknkiggejaaDoor
open Go.RowKit

/-- The slice x reads as these ints. -/
def Nums (w : World) (x : Value) (l : List Int) : Prop :=
  ∃ A c, x = .slice A l.length c ∧ l.length ≤ c ∧ (l ≠ [] → ∃ b off, A = some ⟨b, off, none⟩ ∧ b < w.heap.size ∧ ∀ (i : Nat) (v : Int), l[i]? = some v → w.cell? ⟨b, off + i, none⟩ = some (.int .i64 v))
def intV (z : Int) : Value := .int .i64 z
section
variable {w w' : World} {x : Value} {l : List Int}
theorem Nums.form (h : Nums w x l) : ∃ A c, x = .slice A l.length c ∧ l.length ≤ c := by
  obtain ⟨A, c, h1, h2, _⟩ := h
  exact ⟨A, c, h1, h2⟩
theorem Nums.below (h : Nums w x l) (hb : Below w.heap.size w w') : Nums w' x l := by
  obtain ⟨A, c, h1, h2, h3⟩ := h
  refine ⟨A, c, h1, h2, fun hne => ?_⟩
  obtain ⟨b, off, h4, h5, h6⟩ := h3 hne
  exact ⟨b, off, h4, Nat.lt_of_lt_of_le h5 hb.size, fun i v hv => (World.cell?_of_block (w := w) (a := ⟨b, off + i, none⟩) (hb.block b h5)).trans (h6 i v hv)⟩
theorem Nums.at_ {A : Option Addr} {n c : Nat} (h : Nums w (.slice A n c) l) {i : Nat} {v : Int} (hv : l[i]? = some v) : ∃ b off, A = some ⟨b, off, none⟩ ∧ b < w.heap.size ∧ w.cell? ⟨b, off + i, none⟩ = some (.int .i64 v) := by
  obtain ⟨A', c', e, _, h3⟩ := h
  injection e with e1 e2 e3
  subst e1
  obtain ⟨b, off, h4, h5, h6⟩ := h3 (by rintro rfl; simp at hv)
  exact ⟨b, off, h4, h5, h6 i v hv⟩
theorem Nums.of_own {base n : Nat} {t : TypeId} (h : w.ownsRow base t 1 x n (l.map intV)) (hn : l.length = n) : Nums w x l := by
  subst hn
  rcases h.2 with ⟨rfl, h0⟩ | ⟨g, cap, cur, rfl, _, hg, hle, _⟩
  · exact ⟨none, 0, by rw [h0], by omega, fun hne => absurd (List.eq_nil_of_length_eq_zero h0) hne⟩
  · refine ⟨some ⟨g, 0, none⟩, cap, rfl, hle, fun _ => ⟨g, 0, rfl, (Array.getElem?_eq_some_iff.1 hg).1, fun i v hv => ?_⟩⟩
    have hi := (List.getElem?_eq_some_iff.1 hv).1
    rw [Nat.zero_add]
    exact (h.cellAt i (by omega)).trans (by rw [List.getElem?_map, hv]; rfl)
theorem Nums.from_ (h : Nums w x l) : From w 1 x l.length (l.map intV) := by
  obtain ⟨A, c, rfl, _, hc⟩ := h
  refine ⟨A, c, rfl, by simp, fun h0 => ?_⟩
  obtain ⟨b, off, rfl, hb, hcell⟩ := hc (by intro e; rw [e] at h0; exact h0 rfl)
  refine ⟨_, rfl, fun j u hu => ?_⟩
  rw [addr_add]
  rw [List.getElem?_map] at hu
  cases hj : l[j]? with
  | none => rw [hj] at hu; cases hu
  | some v => rw [hj] at hu; injection hu with hu; subst hu; exact hcell j v hj
end
set_option maxRecDepth 100000 in
set_option maxHeartbeats 1000000 in
theorem ints_same (x y : Value) (l : List Int) (w : World) (hx : Nums w x l) (hy : Nums w y l) (hl : l.length ≤ 1000000) :
    Calls Tryd.prog 20 #[x, y] w fun e w' => e = .returned (.bool true) ∧ Below w.heap.size w w' := by
  obtain ⟨A1, c1, rfl, _⟩ := hx.form
  obtain ⟨A2, c2, rfl, _⟩ := hy.form
  have H := hid (And.intro hx (And.intro hy hl))
  clear hx hy hl
  go_enter Tryd.func20, Tryd.ntmps20
  go_wp2_with fail
  go_loopg [5] l.length (fun k iv wr => ∃ i : Nat, i + k = l.length ∧ iv = .int .i64 i ∧ Below w.heap.size w wr)
  case atStart => exact ⟨0, by omega, rfl, Below.refl _ _⟩
  case round =>
    obtain ⟨i, hi, rfl, hb⟩ := hrel
    have hl := H.out.2.2
    by_cases hlt : i < l.length
    · obtain ⟨v, hv⟩ : ∃ v, l[i]? = some v := ⟨l[i], List.getElem?_eq_getElem hlt⟩
      obtain ⟨b1, o1, rfl, _, p0⟩ := (H.out.1.below hb).at_ hv
      obtain ⟨b2, o2, rfl, _, q0⟩ := (H.out.2.1.below hb).at_ hv
      have k0 : (0 : Int) ≤ (i : Int) := by omega
      have k1 : (i : Int) < (l.length : Int) := by omega
      have HJ := hid (And.intro hi hb)
      clear hi hv hb
      go_wp2_with fail
      go_quiet (fail)
      go_wp2_with fail
      obtain ⟨hi, hb⟩ := HJ.out
      go_roundg (gk - 1)
      case measure => omega
      case rel => exact ⟨i + 1, by omega, by go_num, ⟨hb.os, hb.tape, hb.output, hb.size, hb.block⟩⟩
    · have hge : l.length ≤ i := by omega
      have hn : decide ((i : Int) < (l.length : Int)) = false := by simp; omega
      go_wp2_with fail
      go_ret
      exact ⟨rfl, hb⟩
end Go.Proofs.YtnlfnknkiggejaaDoor
