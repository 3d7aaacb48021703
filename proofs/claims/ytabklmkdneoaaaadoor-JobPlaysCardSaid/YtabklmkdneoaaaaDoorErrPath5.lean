/- kinsame.Err at an error with a path; fault.In; kinref.Wrap. -/
import Derived.Test.YtabklmkdneoaaaaDoorErrPath4
import Derived.Deep.QuietTactic
import Derived.BigQuiet
namespace Go.Proofs.YtabklmkdneoaaaaDoor
open Go.RowKit

/-- What holds while an error with a path is held against the document's. -/
structure Evp (w : World) (ob : Nat) (c : Int) (q : PathS) (v pv : Value) (W : World) : Prop where
  et : ErrT W
  bel : Below w.heap.size w W
  blk : Blk W ob 32 #[.int .i64 c, pv]
  ev : ErrV W c q v
  st : Steps W pv q
theorem Evp.step {w W W' : World} {ob : Nat} {c : Int} {q : PathS} {v pv : Value} (h : Evp w ob c q v pv W) (hb : Below W.heap.size W W') : Evp w ob c q v pv W' :=
  ⟨h.et.below hb h.et.lt, h.bel.trans (hb.mono h.bel.size), h.blk.below hb h.blk.lt, h.ev.below hb, h.st.below hb⟩
theorem Evp.drew {w W : World} {ob : Nat} {c : Int} {q : PathS} {v pv : Value} (h : Evp w ob c q v pv W) : Evp w ob c q v pv W.drew := h.step (Below.refl _ W).drew
theorem Evp.cells {w W : World} {ob : Nat} {c : Int} {q : PathS} {v pv : Value} (h : Evp w ob c q v pv W) : W.cell? ⟨ob, 0, none⟩ = some (.int .i64 c) ∧ W.cell? ⟨ob, 1, none⟩ = some pv :=
  ⟨by simpa using h.blk.cell 0, by simpa using h.blk.cell 1⟩
set_option maxRecDepth 100000 in
set_option maxHeartbeats 1600000 in
theorem err_path (c : Int) (q : PathS) (v pv : Value) (w : World) (hv : ErrV w c q v) (hp : Steps w pv q) (hg : ErrT w) (hc : c ≠ 0) (hq : q.length ≤ 1000) : Calls Tryd.prog 23 #[v, .agg #[.int .i64 c, pv]] w fun e w' => e = .returned (.bool true) ∧ Below w.heap.size w w' := by
  obtain ⟨A, cap, rfl, _⟩ := id hp
  have hb0 : Below w.heap.size w (w.alloc (.cells #[.int .i64 c, .slice A q.length cap] 32)) := (Below.refl w.heap.size w).alloc (Nat.le_refl _) _
  have EV : Hid (Evp w w.heap.size c q v (.slice A q.length cap) (w.alloc (.cells #[.int .i64 c, .slice A q.length cap] 32))) := ⟨hg.below hb0 hg.lt, hb0, Blk.new _ _ _, hv.below hb0, hp.below hb0⟩
  obtain ⟨tv, xv, hform⟩ := hv.form
  subst hform
  clear hg hb0 hv hp
  have h1 : (c == 0) = false := by simpa using hc
  clear hc
  go_enter Tryd.func23, Tryd.ntmps23
  go_wp2_with fail
  obtain ⟨b0, b1⟩ := EV.out.cells
  generalize w.alloc (.cells #[.int .i64 c, .slice A q.length cap] 32) = wq at *
  go_region_held3 (fun W => W.cell? ⟨w.heap.size, 0, none⟩ = some (.int .i64 c) ∧ W.cell? ⟨w.heap.size, 1, none⟩ = some (.slice A q.length cap))
    (first
      | exact ⟨b0, b1⟩
      | exact ⟨d0, d1⟩
      | exact ⟨f0, f1⟩)
    (first
      | (go_at_call 69
         refine (err_ok _ _ _).mono ?_
         rintro e w2 ⟨rfl, hb2⟩
         have E2 := hid (Evp.step (by first | exact EV.out | exact EV.out.drew) hb2)
         obtain ⟨d0, d1⟩ := E2.out.cells
         clear hb2)
      | (go_at_call 41
         refine (of_path c q _ _ (by exact E2.out.ev) (by exact E2.out.et)).mono ?_
         rintro e w3 ⟨rfl, hb3⟩
         have E3 := hid (E2.out.step hb3)
         obtain ⟨f0, f1⟩ := E3.out.cells
         clear hb3))
  all_goals
    go_wp2_with fail
    refine (path_path c q _ _ (by first | exact E3.out.ev | exact E3.out.drew.ev) (by first | exact E3.out.et | exact E3.out.drew.et) hq).mono ?_
    rintro e w4 ⟨pv2, rfl, hst, hb4⟩
    have E4 := hid (Evp.step (by first | exact E3.out | exact E3.out.drew) hb4)
    obtain ⟨g0, g1⟩ := E4.out.cells
    obtain ⟨A2, cap2, rfl, _⟩ := id hst
    have ST := hid hst
    clear hb4 hst b0 b1 d0 d1 f0 f1
    go_wp2_with fail
    go_loopg [6] q.length (fun k i wr => ∃ j : Nat, j + k = q.length ∧ i = .int .i64 j ∧ ∃ n, wr = w4.drewN n)
    case atStart => exact ⟨0, by omega, rfl, 0, rfl⟩
    case round =>
      obtain ⟨j, hj, rfl, n, rfl⟩ := hrel
      by_cases hlt : j < q.length
      · obtain ⟨x1, o1, a, rfl, _, ha, p1, p2⟩ := ST.out.at_ j hlt
        obtain ⟨x2, o2, a2, rfl, _, ha2, p3, p4⟩ := E4.out.st.at_ j hlt
        obtain rfl : a = a2 := Option.some.inj (ha.symm.trans ha2)
        have k0 : (0 : Int) ≤ (j : Int) := by omega
        have k1 : (j : Int) < (q.length : Int) := by omega
        have n2 : (a.2 != a.2) = false := by simp
        have HJ := hid (And.intro hj hlt)
        clear ha ha2 hj
        go_wp2_with fail
        go_quiet (fail)
        go_wp2_with fail
        have hjj := HJ.out
        go_roundg (gk - 1)
        case measure => omega
        case rel => exact ⟨j + 1, by omega, by go_num, _, rfl⟩
      · have hge : q.length ≤ j := by omega
        have j1 : decide ((j : Int) < (q.length : Int)) = false := by simp; omega
        go_wp2_with fail
        go_ret
        exact ⟨rfl, ⟨E4.out.bel.os, E4.out.bel.tape, E4.out.bel.output, E4.out.bel.size, E4.out.bel.block⟩⟩
end Go.Proofs.YtabklmkdneoaaaaDoor
