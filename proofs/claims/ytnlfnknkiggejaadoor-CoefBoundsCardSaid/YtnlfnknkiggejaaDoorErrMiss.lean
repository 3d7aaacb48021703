/- kinsame.Err at two places that differ. -/
import Derived.Test.YtnlfnknkiggejaaDoorErrPath5
namespace Go.Proofs.YtnlfnknkiggejaaDoor
open Go.RowKit

/-- What holds while an error is held against one of another place. -/
structure Evq (w : World) (ob : Nat) (c : Int) (q q2 : PathS) (v pv : Value) (W : World) : Prop where
  et : ErrT W
  bel : Below w.heap.size w W
  blk : Blk W ob 38 #[.int .i64 c, pv]
  ev : ErrV W c q v
  st : Steps W pv q2
theorem Evq.step {w W W' : World} {ob : Nat} {c : Int} {q q2 : PathS} {v pv : Value} (h : Evq w ob c q q2 v pv W) (hb : Below W.heap.size W W') : Evq w ob c q q2 v pv W' :=
  ⟨h.et.below hb h.et.lt, h.bel.trans (hb.mono h.bel.size), h.blk.below hb h.blk.lt, h.ev.below hb, h.st.below hb⟩
theorem Evq.drew {w W : World} {ob : Nat} {c : Int} {q q2 : PathS} {v pv : Value} (h : Evq w ob c q q2 v pv W) : Evq w ob c q q2 v pv W.drew := h.step (Below.refl _ W).drew
theorem Evq.cells {w W : World} {ob : Nat} {c : Int} {q q2 : PathS} {v pv : Value} (h : Evq w ob c q q2 v pv W) : W.cell? ⟨ob, 0, none⟩ = some (.int .i64 c) ∧ W.cell? ⟨ob, 1, none⟩ = some pv :=
  ⟨by simpa using h.blk.cell 0, by simpa using h.blk.cell 1⟩
set_option maxRecDepth 100000 in
set_option maxHeartbeats 1600000 in
theorem err_miss (c p pp : Int) (s : ByteArray) (v pv : Value) (w : World) (hv : ErrV w c [(s, p)] v) (hp : Steps w pv [(s, pp)]) (hg : ErrT w) (hc : c ≠ 0) (hne : p ≠ pp) : Calls Tryd.prog 21 #[v, .agg #[.int .i64 c, pv]] w fun e w' => e = .returned (.bool false) ∧ Below w.heap.size w w' := by
  have NE := hid hne
  clear hne
  obtain ⟨q, hq1⟩ : ∃ q, q = [(s, p)] := ⟨_, rfl⟩
  obtain ⟨q2, hq2⟩ : ∃ q, q = [(s, pp)] := ⟨_, rfl⟩
  rw [← hq1] at hv
  rw [← hq2] at hp
  have L1 : q.length = 1 := by rw [hq1]; rfl
  have L2 : q2.length = 1 := by rw [hq2]; rfl
  have QQ := hid (And.intro hq1 hq2)
  have LL := hid (And.intro L1 L2)
  clear hq1 hq2
  obtain ⟨A, cap, hpf, _⟩ := id hp
  rw [L2] at hpf
  subst hpf
  have hb0 : Below w.heap.size w (w.alloc (.cells #[.int .i64 c, .slice A 1 cap] 38)) := (Below.refl w.heap.size w).alloc (Nat.le_refl _) _
  have EV : Hid (Evq w w.heap.size c q q2 v (.slice A 1 cap) (w.alloc (.cells #[.int .i64 c, .slice A 1 cap] 38))) := ⟨hg.below hb0 hg.lt, hb0, Blk.new _ _ _, hv.below hb0, hp.below hb0⟩
  obtain ⟨tv, xv, hform⟩ := hv.form
  subst hform
  clear hg hb0 hv hp
  have h1 : (c == 0) = false := by simpa using hc
  clear hc
  go_enter Tryd.func21, Tryd.ntmps21
  go_wp2_with fail
  obtain ⟨b0, b1⟩ := EV.out.cells
  generalize w.alloc (.cells #[.int .i64 c, .slice A 1 cap] 38) = wq at *
  go_region_held3 (fun W => W.cell? ⟨w.heap.size, 0, none⟩ = some (.int .i64 c) ∧ W.cell? ⟨w.heap.size, 1, none⟩ = some (.slice A 1 cap))
    (first
      | exact ⟨b0, b1⟩
      | exact ⟨d0, d1⟩
      | exact ⟨f0, f1⟩)
    (first
      | (go_at_call 66
         refine (err_ok _ _ _).mono ?_
         rintro e w2 ⟨rfl, hb2⟩
         have E2 := hid (Evq.step (by first | exact EV.out | exact EV.out.drew) hb2)
         obtain ⟨d0, d1⟩ := E2.out.cells
         clear hb2)
      | (go_at_call 67
         refine (of_path c q _ _ (by exact E2.out.ev) (by exact E2.out.et)).mono ?_
         rintro e w3 ⟨rfl, hb3⟩
         have E3 := hid (E2.out.step hb3)
         obtain ⟨f0, f1⟩ := E3.out.cells
         clear hb3))
  all_goals
    go_wp2_with fail
    refine (path_path c q _ _ (by first | exact E3.out.ev | exact E3.out.drew.ev) (by first | exact E3.out.et | exact E3.out.drew.et) (by omega)).mono ?_
    rintro e w4 ⟨pv2, rfl, hst, hb4⟩
    have E4 := hid (Evq.step (by first | exact E3.out | exact E3.out.drew) hb4)
    obtain ⟨g0, g1⟩ := E4.out.cells
    obtain ⟨A2, cap2, hpf2, _⟩ := id hst
    rw [L1] at hpf2
    subst hpf2
    have ST := hid hst
    clear hb4 hst b0 b1 d0 d1 f0 f1
    go_wp2_with fail
    go_loopg [6] 1 (fun k i wr => k = 1 ∧ i = .int .i64 0 ∧ wr = w4)
    case atStart => exact ⟨rfl, rfl, rfl⟩
    case round =>
      obtain ⟨rfl, rfl, rfl⟩ := hrel
      obtain ⟨x1, o1, a, rfl, _, ha, p1, p2⟩ := (show Steps wr (.slice A2 q.length cap2) q by rw [LL.out.1]; exact ST.out).at_ 0 (by rw [LL.out.1]; decide)
      obtain ⟨x2, o2, a2, rfl, _, ha2, p3, p4⟩ := (show Steps wr (.slice A q2.length cap) q2 by rw [LL.out.2]; exact E4.out.st).at_ 0 (by rw [LL.out.2]; decide)
      rw [QQ.out.1] at ha
      rw [QQ.out.2] at ha2
      obtain rfl : (s, p) = a := by simpa using ha
      obtain rfl : (s, pp) = a2 := by simpa using ha2
      have n2 : (p != pp) = true := bne_iff_ne.2 NE.out
      simp only [Nat.zero_mul, Nat.add_zero] at p1 p2 p3 p4
      clear ha ha2
      go_wp2_with fail
      go_quiet (fail)
      go_wp2_with fail
      go_ret
      exact ⟨rfl, ⟨E4.out.bel.os, E4.out.bel.tape, E4.out.bel.output, E4.out.bel.size, E4.out.bel.block⟩⟩
end Go.Proofs.YtnlfnknkiggejaaDoor
