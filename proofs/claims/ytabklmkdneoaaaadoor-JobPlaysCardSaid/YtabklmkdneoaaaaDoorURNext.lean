/- kinref4.Next: the walk. -/
import Derived.Test.YtabklmkdneoaaaaDoorUNext4
import Derived.Test.YtabklmkdneoaaaaDoorURMake
namespace Go.Proofs.YtabklmkdneoaaaaDoor
open Go.RowKit

def RNoUnit (c : Int) (q : PathS) (w : World) (e : Ending) (w' : World) : Prop := ∃ pv, e = .returned (.tuple #[.agg #[.int .i64 0, .slice none 0 0, .int .i64 0, .int .i64 0], .agg #[.int .i64 c, pv]]) ∧ Steps w' pv q ∧ Below w.heap.size w w'
/-- The cells of the two results. -/
structure RB (w : World) (W : World) : Prop where
  bel : Below w.heap.size w W
  res : Blk W w.heap.size 35 #[.int .i64 0, .slice none 0 0, .int .i64 0, .int .i64 0]
  er : Blk W (w.heap.size + 1) 32 #[.int .i64 0, .slice none 0 0]
theorem RB.new (w : World) : RB w ((w.alloc (.cells #[.int .i64 0, .slice none 0 0, .int .i64 0, .int .i64 0] 35)).alloc (.cells #[.int .i64 0, .slice none 0 0] 32)) :=
  ⟨((Below.refl _ _).alloc (Nat.le_refl _) _).alloc (by simp) _, (Blk.new _ _ _).alloc _, Blk.newAt' (n := w.heap.size + 1) (w.alloc (.cells #[.int .i64 0, .slice none 0 0, .int .i64 0, .int .i64 0] 35)) _ _ (by simp)⟩
theorem RB.step {w W W' : World} (h : RB w W) (hb : Below W.heap.size W W') : RB w W' := ⟨h.bel.trans (hb.mono h.bel.size), h.res.below hb h.res.lt, h.er.below hb h.er.lt⟩
theorem RB.drewN {w W : World} (h : RB w W) (n : Nat) : RB w (W.drewN n) := ⟨⟨h.bel.os, h.bel.tape, h.bel.output, h.bel.size, h.bel.block⟩, h.res, h.er⟩
theorem RB.cells {w W : World} (h : RB w W) : W.cell? ⟨w.heap.size, 0, none⟩ = some (.int .i64 0) ∧ W.cell? ⟨w.heap.size, 1, none⟩ = some (.slice none 0 0) ∧ W.cell? ⟨w.heap.size, 2, none⟩ = some (.int .i64 0) ∧ W.cell? ⟨w.heap.size, 3, none⟩ = some (.int .i64 0) ∧ W.cell? ⟨w.heap.size + 1, 0, none⟩ = some (.int .i64 0) ∧ W.cell? ⟨w.heap.size + 1, 1, none⟩ = some (.slice none 0 0) :=
  ⟨by simpa using h.res.cell 0, by simpa using h.res.cell 1, by simpa using h.res.cell 2, by simpa using h.res.cell 3, by simpa using h.er.cell 0, by simpa using h.er.cell 1⟩
theorem RB.frozen {w W : World} (h : RB w W) : W.frozen? ⟨w.heap.size, 0, none⟩ = false ∧ W.frozen? ⟨w.heap.size, 1, none⟩ = false ∧ W.frozen? ⟨w.heap.size, 2, none⟩ = false ∧ W.frozen? ⟨w.heap.size, 3, none⟩ = false ∧ W.frozen? ⟨w.heap.size + 1, 0, none⟩ = false ∧ W.frozen? ⟨w.heap.size + 1, 1, none⟩ = false :=
  ⟨h.res.frozen 0, h.res.frozen 1, h.res.frozen 2, h.res.frozen 3, h.er.frozen 0, h.er.frozen 1⟩
/-- Both results laid down. -/
def laid6 (w W : World) (a0 a1 a2 a3 b0 b1 : Value) : World := (((((W.setCell ⟨w.heap.size, 0, none⟩ a0).setCell ⟨w.heap.size, 1, none⟩ a1).setCell ⟨w.heap.size, 2, none⟩ a2).setCell ⟨w.heap.size, 3, none⟩ a3).setCell ⟨w.heap.size + 1, 0, none⟩ b0).setCell ⟨w.heap.size + 1, 1, none⟩ b1
theorem laid6_only (w W : World) (a0 a1 a2 a3 b0 b1 : Value) : Only (fun k => k = w.heap.size ∨ k = w.heap.size + 1) W (laid6 w W a0 a1 a2 a3 b0 b1) :=
  ((((((Only.refl _ W).put (b := w.heap.size) (.inl rfl) 0 _).put (b := w.heap.size) (.inl rfl) 1 _).put (b := w.heap.size) (.inl rfl) 2 _).put (b := w.heap.size) (.inl rfl) 3 _).put (b := w.heap.size + 1) (.inr rfl) 0 _).put (b := w.heap.size + 1) (.inr rfl) 1 _
theorem RB.laid_bel {w W : World} (h : RB w W) (a0 a1 a2 a3 b0 b1 : Value) : Below w.heap.size w (laid6 w W a0 a1 a2 a3 b0 b1) := by
  have ho := laid6_only w W a0 a1 a2 a3 b0 b1
  exact h.bel.trans ⟨ho.os, ho.tape, ho.output, ho.size, fun k hk => ho.block k (by have := h.bel.size; omega) (by omega)⟩
/-- What the results' cells read, at each store. -/
theorem RB.laid_cells {w W : World} (h : RB w W) (a0 a1 a2 a3 b0 b1 : Value) :
    (W.setCell ⟨w.heap.size, 0, none⟩ a0).cell? ⟨w.heap.size, 0, none⟩ = some a0 ∧
    ((W.setCell ⟨w.heap.size, 0, none⟩ a0).setCell ⟨w.heap.size, 1, none⟩ a1).cell? ⟨w.heap.size, 1, none⟩ = some a1 ∧
    (((W.setCell ⟨w.heap.size, 0, none⟩ a0).setCell ⟨w.heap.size, 1, none⟩ a1).setCell ⟨w.heap.size, 2, none⟩ a2).cell? ⟨w.heap.size, 2, none⟩ = some a2 ∧
    ((((W.setCell ⟨w.heap.size, 0, none⟩ a0).setCell ⟨w.heap.size, 1, none⟩ a1).setCell ⟨w.heap.size, 2, none⟩ a2).setCell ⟨w.heap.size, 3, none⟩ a3).cell? ⟨w.heap.size, 3, none⟩ = some a3 ∧
    (((((W.setCell ⟨w.heap.size, 0, none⟩ a0).setCell ⟨w.heap.size, 1, none⟩ a1).setCell ⟨w.heap.size, 2, none⟩ a2).setCell ⟨w.heap.size, 3, none⟩ a3).setCell ⟨w.heap.size + 1, 0, none⟩ b0).cell? ⟨w.heap.size + 1, 0, none⟩ = some b0 ∧
    ((((((W.setCell ⟨w.heap.size, 0, none⟩ a0).setCell ⟨w.heap.size, 1, none⟩ a1).setCell ⟨w.heap.size, 2, none⟩ a2).setCell ⟨w.heap.size, 3, none⟩ a3).setCell ⟨w.heap.size + 1, 0, none⟩ b0).setCell ⟨w.heap.size + 1, 1, none⟩ b1).cell? ⟨w.heap.size + 1, 1, none⟩ = some b1 := by
  have k1 := h.res.put 0 a0
  have k2 := k1.put 1 a1
  have k3 := k2.put 2 a2
  have k4 := k3.put 3 a3
  have e1 := ((((h.er.far (p := ⟨w.heap.size, 0, none⟩) (by simp) a0).far (p := ⟨w.heap.size, 1, none⟩) (by simp) a1).far (p := ⟨w.heap.size, 2, none⟩) (by simp) a2).far (p := ⟨w.heap.size, 3, none⟩) (by simp) a3)
  have e2 := e1.put 0 b0
  have e3 := e2.put 1 b1
  exact ⟨by simpa using k1.cell 0, by simpa using k2.cell 1, by simpa using k3.cell 2, by simpa using k4.cell 3, by simpa using e2.cell 0, by simpa using e3.cell 1⟩
set_option maxHeartbeats 1000000 in
theorem rnext_none (x : Value) (bs : List UInt8) (a : Int) (w : World) (hx : Byt w x bs) (ha : a < 0 ∨ (bs.length : Int) ≤ a) :
    Calls Tryd.prog 28 #[x, .int .i64 a] w (RNoUnit 7 [] w) := by
  obtain ⟨A, c, rfl, hc⟩ := hx.form
  clear hx
  have R0 := hid (RB.new w)
  have hx : a < 0 ∨ (0 ≤ a ∧ (bs.length : Int) ≤ a) := by omega
  clear ha
  rcases hx with h | ⟨h0, h⟩
  all_goals
    go_enter Tryd.func28, Tryd.ntmps28
    go_wp2_with fail
    refine (fail_any 7 _).mono ?_
    rintro e w2 ⟨rfl, hb2⟩
    have R1 := hid (R0.out.step hb2)
    obtain ⟨r0, r1, r2, r3, r4, r5⟩ := R1.out.cells
    obtain ⟨f0, f1, f2, f3, f4, f5⟩ := R1.out.frozen
    clear hb2
    go_wp2_with fail
    obtain ⟨h0, h1, h2, h3, h4, h5⟩ := R1.out.laid_cells (.int .i64 0) (.slice none 0 0) (.int .i64 0) (.int .i64 0) (.int .i64 7) (.slice none 0 0)
    refine bodyPost_ret (v := .tuple #[.agg #[.int .i64 0, .slice none 0 0, .int .i64 0, .int .i64 0], .agg #[.int .i64 7, .slice none 0 0]]) ?_ rfl ⟨.slice none 0 0, rfl, Steps.nil _ 0, R1.out.laid_bel (.int .i64 0) (.slice none 0 0) (.int .i64 0) (.int .i64 0) (.int .i64 7) (.slice none 0 0)⟩
    simp [results, Tryd.results28, go_sem, h0, h1, h2, h3, h4, h5]
def RFillUnit (k : Nat) (w : World) (e : Ending) (w' : World) : Prop := e = .returned (.tuple #[.agg #[.int .i64 0, .slice none 0 0, .int .i64 k, .int .i64 (k + 1 : Nat)], .agg #[.int .i64 0, .slice none 0 0]]) ∧ Below w.heap.size w w'
set_option maxHeartbeats 1000000 in
theorem rnext_fill (x : Value) (bs : List UInt8) (k : Nat) (w : World) (hx : Byt w x bs) (hk : k < bs.length) (hu : bs[k]? = some 0) (_ : bs.length ≤ 1000000) :
    Calls Tryd.prog 28 #[x, .int .i64 k] w (RFillUnit k w) := by
  obtain ⟨A, c, rfl, hc⟩ := hx.form
  obtain ⟨b, off, rfl, hb, hd⟩ := hx.drop hk
  have k0 : (0 : Int) ≤ (k : Int) := by omega
  have k1 : (k : Int) < (bs.length : Int) := by omega
  have t1 : decide ((k : Int) < 0) = false := by simp
  have t2 : decide ((bs.length : Int) ≤ (k : Int)) = false := by simp; omega
  have c0 := hx.cell k 0 hu
  simp at c0
  have hbel : Below w.heap.size w ((w.alloc (.cells #[.int .i64 0, .slice none 0 0, .int .i64 k, .int .i64 (k + 1)] 35)).alloc (.cells #[.int .i64 0, .slice none 0 0] 32)) := ((Below.refl _ _).alloc (Nat.le_refl _) _).alloc (by simp) _
  have HB := hid hbel
  clear hx hd hu hbel
  go_enter Tryd.func28, Tryd.ntmps28
  go_wp2_with fail
  exact bodyPost_ret (v := .tuple #[.agg #[.int .i64 0, .slice none 0 0, .int .i64 k, .int .i64 (k + 1 : Nat)], .agg #[.int .i64 0, .slice none 0 0]]) (by simp [results, Tryd.results28, go_sem]) rfl ⟨rfl, HB.out⟩
set_option maxHeartbeats 1000000 in
theorem rnext_short (x : Value) (bs : List UInt8) (k : Nat) (u : UInt8) (w : World) (hx : Byt w x bs) (hk : k < bs.length) (hu : bs[k]? = some u) (h0 : u ≠ 0) (hs : bs.length - k < 4) :
    Calls Tryd.prog 28 #[x, .int .i64 k] w (RNoUnit 1 [(unitS, k)] w) := by
  obtain ⟨A, c, rfl, hc⟩ := hx.form
  obtain ⟨b, off, rfl, hb, hd⟩ := hx.drop hk
  have hne : ¬ (c = k) := by omega
  have k0 : (0 : Int) ≤ (k : Int) := by omega
  have k1 : (k : Int) < (bs.length : Int) := by omega
  have t1 : decide ((k : Int) < 0) = false := by simp
  have t2 : decide ((bs.length : Int) ≤ (k : Int)) = false := by simp; omega
  have t3 : decide (((bs.length - k : Nat) : Int) < 4) = true := by simp; omega
  have c0 := hx.cell k u hu
  have hu0 : ((u.toNat : Int) == 0) = false := by
    simp
    intro h
    exact h0 (UInt8.toNat_inj.1 h)
  have R0 := hid (RB.new w)
  clear hx hd hu h0 hs
  go_enter Tryd.func28, Tryd.ntmps28
  go_wp2_with fail
  refine (kwrap_any ⟨#[117, 110, 105, 116]⟩ k 1 _ (by omega)).mono ?_
  rintro e w2 ⟨pv, rfl, hst, hfr, hb2⟩
  have R1 := hid (R0.out.step hb2)
  obtain ⟨A9, c9, rfl, _⟩ := id hst
  obtain ⟨r0, r1, r2, r3, r4, r5⟩ := R1.out.cells
  obtain ⟨f0, f1, f2, f3, f4, f5⟩ := R1.out.frozen
  have ST := hid (And.intro hst (show ∀ k, (Value.slice A9 1 c9).ownBlock = some k → w.heap.size + 2 ≤ k from fun k hk => by have := hfr k hk; have := (R0.out).er.lt; omega))
  clear hb2 hst hfr
  go_wp2_with fail
  obtain ⟨h0, h1, h2, h3, h4, h5⟩ := R1.out.laid_cells (.int .i64 0) (.slice none 0 0) (.int .i64 0) (.int .i64 0) (.int .i64 1) (.slice A9 1 c9)
  refine bodyPost_ret (v := .tuple #[.agg #[.int .i64 0, .slice none 0 0, .int .i64 0, .int .i64 0], .agg #[.int .i64 1, .slice A9 1 c9]]) ?_ rfl ⟨.slice A9 1 c9, rfl, ST.out.1.only (laid6_only w w2 (.int .i64 0) (.slice none 0 0) (.int .i64 0) (.int .i64 0) (.int .i64 1) (.slice A9 1 c9)) (fun k hk e => by have := ST.out.2 k hk; omega), R1.out.laid_bel (.int .i64 0) (.slice none 0 0) (.int .i64 0) (.int .i64 0) (.int .i64 1) (.slice A9 1 c9)⟩
  simp [results, Tryd.results28, go_sem, h0, h1, h2, h3, h4, h5]
end Go.Proofs.YtabklmkdneoaaaaDoor
