/- unit.Next: the walk. -/
import Derived.Test.YtabklmkdneoaaaaDoorErrWrap
import Derived.Test.YtabklmkdneoaaaaDoorUMake
import Derived.Deep.QuietTactic
import Derived.BigQuiet
namespace Go.Proofs.YtabklmkdneoaaaaDoor
open Go.RowKit

def unitS : ByteArray := ⟨#[117, 110, 105, 116]⟩
def unitV (k : Int) (d : Value) (a e : Int) : Value := .agg #[.int .i64 k, d, .int .i64 a, .int .i64 e]
def zeroU : Value := .agg #[.int .i64 0, .slice none 0 0, .int .i64 0, .int .i64 0]
def NoUnit (c : Int) (q : PathS) (w : World) (e : Ending) (w' : World) : Prop := ∃ v, e = .returned (.tuple #[.agg #[.int .i64 0, .slice none 0 0, .int .i64 0, .int .i64 0], v]) ∧ ErrV w' c q v ∧ Below w.heap.size w w'
theorem refuse_any (c : Int) (ab : Nat) (a : Int) (w : World) (ha : w.cell? ⟨ab, 0, none⟩ = some (.int .i64 a)) :
    Calls Tryd.prog 71 #[.int .i64 c, .pointer (some ⟨ab, 0, none⟩)] w (NoUnit c [(unitS, a)] w) := by
  have hal : ab < w.heap.size := World.block_lt_of_cell? _ _ ha
  have ha2 : (w.alloc (.cells #[.int .i64 0, .slice none 0 0, .int .i64 0, .int .i64 0] 35)).cell? ⟨ab, 0, none⟩ = some (.int .i64 a) := (World.cell?_alloc_lt _ _ ⟨ab, 0, none⟩ hal).trans ha
  go_enter Tryd.func71, Tryd.ntmps71
  go_wp2_with fail
  refine (in_any ⟨#[117, 110, 105, 116]⟩ a c [] _ _ rfl).mono ?_
  rintro e w2 ⟨v, rfl, hv, hb⟩
  have R := (Blk.new w 35 #[.int .i64 0, .slice none 0 0, .int .i64 0, .int .i64 0]).below hb (by simp)
  have r0 := R.cell 0
  have r1 := R.cell 1
  have r2 := R.cell 2
  have r3 := R.cell 3
  have rf0 := R.frozen 0
  have rf1 := R.frozen 1
  have rf2 := R.frozen 2
  have rf3 := R.frozen 3
  simp at r0 r1 r2 r3
  have H := hid (And.intro hv (And.intro R hb))
  clear hv R hb
  go_wp2_with fail
  have k1 := H.out.2.1.put 0 (.int .i64 0)
  have k2 := k1.put 1 (.slice none 0 0)
  have k3 := k2.put 2 (.int .i64 0)
  have k4 := k3.put 3 (.int .i64 0)
  have hOn : Only (fun k => k = w.heap.size) w2 ((((w2.setCell ⟨w.heap.size, 0, none⟩ (.int .i64 0)).setCell ⟨w.heap.size, 1, none⟩ (.slice none 0 0)).setCell ⟨w.heap.size, 2, none⟩ (.int .i64 0)).setCell ⟨w.heap.size, 3, none⟩ (.int .i64 0)) := ((((Only.refl (fun k => k = w.heap.size) w2).put (b := w.heap.size) rfl 0 _).put (b := w.heap.size) rfl 1 _).put (b := w.heap.size) rfl 2 _).put (b := w.heap.size) rfl 3 _
  have hs2 := H.out.2.2.size
  have hv2 := ErrV.only hOn (fun k cs e hk => by subst e; exact absurd rfl (H.out.2.1.apart hk (by decide))) H.out.1
  refine bodyPost_ret (v := .tuple #[.agg #[.int .i64 0, .slice none 0 0, .int .i64 0, .int .i64 0], v]) ?_ rfl ⟨v, rfl, hv2, (((Below.refl w.heap.size w).alloc (Nat.le_refl _) _).trans (H.out.2.2.mono (by simp))).trans ⟨hOn.os, hOn.tape, hOn.output, hOn.size, fun k hk => hOn.block k (by simp at hs2; omega) (by omega)⟩⟩
  have h0 := k1.cell 0
  have h1 := k2.cell 1
  have h2 := k3.cell 2
  have h3 := k4.cell 3
  simp at h0 h1 h2 h3
  simp [results, Tryd.results71, go_sem, h0, h1, h2, h3]
theorem next_none (x : Value) (bs : List UInt8) (a : Int) (w : World) (hx : Byt w x bs) (ha : a < 0 ∨ (bs.length : Int) ≤ a) :
    Calls Tryd.prog 25 #[x, .int .i64 a] w (NoUnit 7 [] w) := by
  obtain ⟨A, c, rfl, hc⟩ := hx.form
  clear hx
  have hb : Below w.heap.size w ((w.alloc (.cells #[.int .i64 a] 3)).alloc (.cells #[.int .i64 0, .slice none 0 0, .int .i64 0, .int .i64 0] 35)) := ((Below.refl _ _).alloc (Nat.le_refl _) _).alloc (by simp) _
  have HB := hid hb
  clear hb
  have hx : a < 0 ∨ (0 ≤ a ∧ (bs.length : Int) ≤ a) := by omega
  clear ha
  rcases hx with h | ⟨h0, h⟩
  all_goals
    go_enter Tryd.func25, Tryd.ntmps25
    go_wp2_with fail
    exact bodyPost_ret (v := .tuple #[.agg #[.int .i64 0, .slice none 0 0, .int .i64 0, .int .i64 0], .iface 29 (.int .i64 7)]) (by simp [results, Tryd.results25, go_sem]) rfl ⟨_, rfl, rfl, HB.out⟩
def FillUnit (k : Nat) (w : World) (e : Ending) (w' : World) : Prop := e = .returned (.tuple #[.agg #[.int .i64 0, .slice none 0 0, .int .i64 k, .int .i64 (k + 1 : Nat)], .nilIface]) ∧ Below w.heap.size w w'
theorem next_fill (x : Value) (bs : List UInt8) (k : Nat) (w : World) (hx : Byt w x bs) (hk : k < bs.length) (hu : bs[k]? = some 0) (_ : bs.length ≤ 1000000) :
    Calls Tryd.prog 25 #[x, .int .i64 k] w (FillUnit k w) := by
  obtain ⟨A, c, rfl, hc⟩ := hx.form
  obtain ⟨b, off, rfl, hb, hd⟩ := hx.drop hk
  have k0 : (0 : Int) ≤ (k : Int) := by omega
  have k1 : (k : Int) < (bs.length : Int) := by omega
  have t1 : decide ((k : Int) < 0) = false := by simp
  have t2 : decide ((bs.length : Int) ≤ (k : Int)) = false := by simp; omega
  have c0 := hx.cell k 0 hu
  simp at c0
  have hbel : Below w.heap.size w ((w.alloc (.cells #[.int .i64 k] 3)).alloc (.cells #[.int .i64 0, .slice none 0 0, .int .i64 k, .int .i64 (k + 1)] 35)) := ((Below.refl _ _).alloc (Nat.le_refl _) _).alloc (by simp) _
  have HB := hid hbel
  clear hx hd hu hbel
  go_enter Tryd.func25, Tryd.ntmps25
  go_wp2_with fail
  exact bodyPost_ret (v := .tuple #[.agg #[.int .i64 0, .slice none 0 0, .int .i64 k, .int .i64 (k + 1 : Nat)], .nilIface]) (by simp [results, Tryd.results25, go_sem]) rfl ⟨rfl, HB.out⟩
/-- What Next holds in memory: the place, the result's cells. -/
structure NB (w : World) (k : Nat) (W : World) : Prop where
  bel : Below w.heap.size w W
  box : Blk W w.heap.size 3 #[.int .i64 k]
  res : Blk W (w.heap.size + 1) 35 #[.int .i64 0, .slice none 0 0, .int .i64 0, .int .i64 0]
theorem NB.new (w : World) (k : Nat) : NB w k ((w.alloc (.cells #[.int .i64 k] 3)).alloc (.cells #[.int .i64 0, .slice none 0 0, .int .i64 0, .int .i64 0] 35)) :=
  ⟨((Below.refl _ _).alloc (Nat.le_refl _) _).alloc (by simp) _, (Blk.new _ _ _).alloc _, Blk.newAt' (n := w.heap.size + 1) (w.alloc (.cells #[.int .i64 k] 3)) _ _ (by simp)⟩
theorem NB.step {w W W' : World} {k : Nat} (h : NB w k W) (hb : Below W.heap.size W W') : NB w k W' := ⟨h.bel.trans (hb.mono h.bel.size), h.box.below hb h.box.lt, h.res.below hb h.res.lt⟩
theorem NB.drewN {w W : World} {k : Nat} (h : NB w k W) (n : Nat) : NB w k (W.drewN n) := ⟨⟨h.bel.os, h.bel.tape, h.bel.output, h.bel.size, h.bel.block⟩, h.box, h.res⟩
theorem NB.cells {w W : World} {k : Nat} (h : NB w k W) : W.cell? ⟨w.heap.size, 0, none⟩ = some (.int .i64 k) ∧ W.cell? ⟨w.heap.size + 1, 0, none⟩ = some (.int .i64 0) ∧ W.cell? ⟨w.heap.size + 1, 1, none⟩ = some (.slice none 0 0) ∧ W.cell? ⟨w.heap.size + 1, 2, none⟩ = some (.int .i64 0) ∧ W.cell? ⟨w.heap.size + 1, 3, none⟩ = some (.int .i64 0) :=
  ⟨by simpa using h.box.cell 0, by simpa using h.res.cell 0, by simpa using h.res.cell 1, by simpa using h.res.cell 2, by simpa using h.res.cell 3⟩
/-- The end of a refusal. -/
theorem NB.ends {w W : World} {k : Nat} {c : Int} {q : PathS} {v : Value} (h : NB w k W) (hv : ErrV W c q v) :
    ErrV ((((W.setCell ⟨w.heap.size + 1, 0, none⟩ (.int .i64 0)).setCell ⟨w.heap.size + 1, 1, none⟩ (.slice none 0 0)).setCell ⟨w.heap.size + 1, 2, none⟩ (.int .i64 0)).setCell ⟨w.heap.size + 1, 3, none⟩ (.int .i64 0)) c q v ∧
    Below w.heap.size w ((((W.setCell ⟨w.heap.size + 1, 0, none⟩ (.int .i64 0)).setCell ⟨w.heap.size + 1, 1, none⟩ (.slice none 0 0)).setCell ⟨w.heap.size + 1, 2, none⟩ (.int .i64 0)).setCell ⟨w.heap.size + 1, 3, none⟩ (.int .i64 0)) := by
  have hOn : Only (fun k => k = w.heap.size + 1) W ((((W.setCell ⟨w.heap.size + 1, 0, none⟩ (.int .i64 0)).setCell ⟨w.heap.size + 1, 1, none⟩ (.slice none 0 0)).setCell ⟨w.heap.size + 1, 2, none⟩ (.int .i64 0)).setCell ⟨w.heap.size + 1, 3, none⟩ (.int .i64 0)) := ((((Only.refl (fun k => k = w.heap.size + 1) W).put (b := w.heap.size + 1) rfl 0 _).put (b := w.heap.size + 1) rfl 1 _).put (b := w.heap.size + 1) rfl 2 _).put (b := w.heap.size + 1) rfl 3 _
  exact ⟨ErrV.only hOn (fun k cs e hk => by subst e; exact absurd rfl (h.res.apart hk (by decide))) hv, h.bel.trans ⟨hOn.os, hOn.tape, hOn.output, hOn.size, fun k hk => hOn.block k (by have := h.bel.size; omega) (by omega)⟩⟩
set_option maxHeartbeats 800000 in
theorem next_short (x : Value) (bs : List UInt8) (k : Nat) (u : UInt8) (w : World) (hx : Byt w x bs) (hk : k < bs.length) (hu : bs[k]? = some u) (h0 : u ≠ 0) (hs : bs.length - k < 4) :
    Calls Tryd.prog 25 #[x, .int .i64 k] w (NoUnit 1 [(unitS, k)] w) := by
  obtain ⟨A, c, rfl, hc⟩ := hx.form
  obtain ⟨b, off, rfl, hb, hd⟩ := hx.drop hk
  have hne : ¬ (c = k) := by omega
  have k0 : (0 : Int) ≤ (k : Int) := by omega
  have k1 : (k : Int) < (bs.length : Int) := by omega
  have t1 : decide ((k : Int) < 0) = false := by simp
  have t2 : decide ((bs.length : Int) ≤ (k : Int)) = false := by simp; omega
  have t3 : decide (((bs.length - k : Nat) : Int) < 4) = true := by simp; omega
  have c0 := hx.cell k u hu
  have hu0 : ((u.toNat : Int) == 0) = false := by
    simp
    intro h
    exact h0 (UInt8.toNat_inj.1 h)
  have hmf : ∀ (fn : Fn) (first cap : Array Value) (w : World), (Instr.makeFunc fn first cap).run Tryd.prog w = .ok (.func fn first cap) w := fun _ _ _ _ => rfl
  have N0 := hid (NB.new w k)
  clear hx hd hu h0 hs
  go_enter Tryd.func25, Tryd.ntmps25
  go_wp2_with fail
  refine (refuse_any 1 w.heap.size k _ (by simp)).mono ?_
  rintro e w2 ⟨v, rfl, hv, hb2⟩
  have N1 := hid (N0.out.step hb2)
  obtain ⟨d0, r0, r1, r2, r3⟩ := N1.out.cells
  have rf0 := N1.out.res.frozen 0
  have rf1 := N1.out.res.frozen 1
  have rf2 := N1.out.res.frozen 2
  have rf3 := N1.out.res.frozen 3
  have V := hid hv
  clear hv hb2
  go_wp2_with fail
  have k1 := N1.out.res.put 0 (.int .i64 0)
  have k2 := k1.put 1 (.slice none 0 0)
  have k3 := k2.put 2 (.int .i64 0)
  have k4 := k3.put 3 (.int .i64 0)
  have h0 := k1.cell 0
  have h1 := k2.cell 1
  have h2 := k3.cell 2
  have h3 := k4.cell 3
  simp at h0 h1 h2 h3
  refine bodyPost_ret (v := .tuple #[.agg #[.int .i64 0, .slice none 0 0, .int .i64 0, .int .i64 0], v]) ?_ rfl ⟨v, rfl, (N1.out.ends V.out).1, (N1.out.ends V.out).2⟩
  simp [results, Tryd.results25, go_sem, h0, h1, h2, h3]
end Go.Proofs.YtabklmkdneoaaaaDoor
