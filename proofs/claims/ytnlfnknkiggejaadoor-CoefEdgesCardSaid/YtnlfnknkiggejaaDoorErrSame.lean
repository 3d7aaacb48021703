/- fault.Of, fault.Path, kinsame.Err: at no error, and at a code. -/
import Derived.Test.YtnlfnknkiggejaaDoorErrAs
import Derived.Deep.RegionHeld3
namespace Go.Proofs.YtnlfnknkiggejaaDoor
open Go.RowKit

theorem as_code' (c : Int) (tb : Nat) (old : Value) (w : World) (B : Nat) (hg : ErrT w) (ht0 : w.cell? ⟨tb, 0, none⟩ = some old) (hf0 : w.frozen? ⟨tb, 0, none⟩ = false) (hB : B ≤ tb) (hBs : B ≤ w.heap.size) :
    Calls Tryd.prog 91 #[.iface 35 (.int .i64 c), .iface 156 (.pointer (some ⟨tb, 0, none⟩))] w fun ev w' => ev = .returned (.bool true) ∧ Below B w w' ∧ w'.cell? ⟨tb, 0, none⟩ = some (.int .i64 c) := by
  refine (as_code c _ old w hg ht0 hf0).mono ?_
  rintro e w' ⟨rfl, rfl⟩
  have htl : tb < w.heap.size := World.block_lt_of_cell? _ _ ht0
  refine ⟨rfl, ?_, ?_⟩
  · exact (((((Below.refl B w).alloc hBs _).alloc (by simp; omega) _).alloc (by simp; omega) _).alloc (by simp; omega) _).setCell hB _
  · have hold : (((((w.alloc (.cells #[.pointer (some ⟨tb, 0, none⟩)] 156)).alloc (.cells #[.pointer (some ⟨1, 156, none⟩), .pointer (some ⟨w.heap.size, 0, none⟩), .int .u64 150] 170)).alloc (.cells #[.pointer (some ⟨1, 156, none⟩), .pointer (some ⟨w.heap.size, 0, none⟩), .int .u64 150] 170)).alloc (.cells #[.int .i64 c] 35))).cell? ⟨tb, 0, none⟩ = some old := by
      rw [World.cell?_alloc_lt _ _ ⟨tb, 0, none⟩ (by simp; omega), World.cell?_alloc_lt _ _ ⟨tb, 0, none⟩ (by simp; omega), World.cell?_alloc_lt _ _ ⟨tb, 0, none⟩ (by simp; omega), World.cell?_alloc_lt _ _ ⟨tb, 0, none⟩ htl]
      exact ht0
    exact World.cell?_setCell_same _ _ _ hold
theorem of_nil (w : World) : Calls Tryd.prog 67 #[.nilIface] w fun e w' => e = .returned (.int .i64 0) ∧ w = w' := by
  go_enter Tryd.func67, Tryd.ntmps67
  go_wp2
  go_ret
  exact ⟨rfl, rfl⟩
theorem of_code (c : Int) (w : World) (hg : ErrT w) : Calls Tryd.prog 67 #[.iface 35 (.int .i64 c)] w fun e w' => e = .returned (.int .i64 c) ∧ Below w.heap.size w w' := by
  have hlt := hg.lt
  have hg2 : ErrT (w.alloc (.cells #[.int .i64 0] 35)) := hg.below ((Below.refl w.heap.size w).alloc (Nat.le_refl _) _) hlt
  have HG := hid (And.intro hg hg2)
  clear hg hg2
  go_enter Tryd.func67, Tryd.ntmps67
  go_wp2_with fail
  refine (as_code' c w.heap.size (.int .i64 0) _ w.heap.size HG.out.2 (by simp) (by simp) (Nat.le_refl _) (by simp)).mono ?_
  rintro e w' ⟨rfl, hb, hc⟩
  have B := hid hb
  clear hb
  go_wp2_with fail
  go_ret
  exact ⟨rfl, ((Below.refl w.heap.size w).alloc (Nat.le_refl _) _).trans B.out⟩
theorem path_nil (w : World) : Calls Tryd.prog 68 #[.nilIface] w fun e w' => e = .returned (.slice none 0 0) ∧ Below w.heap.size w w' := by
  go_enter Tryd.func68, Tryd.ntmps68
  go_wp2_with fail
  refine wp_loop_rounds 1 ?_
  rw [rounds_succ]
  go_wp2_with fail
  refine (as_nil _ _).mono ?_
  rintro e w' ⟨rfl, rfl⟩
  go_wp2_with fail
  go_ret
  exact ⟨rfl, (Below.refl _ _).alloc (Nat.le_refl _) _⟩
theorem path_code (c : Int) (w : World) (hg : ErrT w) : Calls Tryd.prog 68 #[.iface 35 (.int .i64 c)] w fun e w' => e = .returned (.slice none 0 0) ∧ Below w.heap.size w w' := by
  have hlt := hg.lt
  have hg2 : ErrT (w.alloc (.cells #[.pointer none] 148)) := hg.below ((Below.refl w.heap.size w).alloc (Nat.le_refl _) _) hlt
  have HG := hid (And.intro hg hg2)
  clear hg hg2
  go_enter Tryd.func68, Tryd.ntmps68
  go_wp2_with fail
  refine wp_loop_rounds 1 ?_
  rw [rounds_succ]
  go_wp2_with fail
  refine (as_fault c ⟨w.heap.size, 0, none⟩ _ HG.out.2).mono ?_
  rintro e w' ⟨rfl, hb⟩
  have B := hid hb
  clear hb
  go_wp2_with fail
  go_ret
  exact ⟨rfl, ((Below.refl w.heap.size w).alloc (Nat.le_refl _) _).trans (B.out.mono (by simp))⟩
theorem err_ok (c : Int) (s : Value) (w : World) : Calls Tryd.prog 66 #[.agg #[.int .i64 c, s]] w fun e w' => e = .returned (.bool (c == 0)) ∧ Below w.heap.size w w' := by
  go_enter Tryd.func66, Tryd.ntmps66
  go_wp2_with fail
  go_ret
  exact ⟨rfl, by first | exact Below.refl _ _ | exact (Below.refl _ _).alloc (Nat.le_refl _) _⟩

/-- No error, or one of a code. -/
def codeV (c : Int) : Value := if c = 0 then .nilIface else .iface 35 (.int .i64 c)
theorem of_any (c : Int) (w : World) (hg : ErrT w) : Calls Tryd.prog 67 #[codeV c] w fun e w' => e = .returned (.int .i64 c) ∧ Below w.heap.size w w' := by
  unfold codeV
  split
  · rename_i h
    subst h
    refine (of_nil w).mono ?_
    rintro e w' ⟨rfl, rfl⟩
    exact ⟨rfl, Below.refl _ _⟩
  · exact of_code c w hg
theorem path_any (c : Int) (w : World) (hg : ErrT w) : Calls Tryd.prog 68 #[codeV c] w fun e w' => e = .returned (.slice none 0 0) ∧ Below w.heap.size w w' := by
  unfold codeV
  split
  · exact path_nil w
  · exact path_code c w hg
/-- What holds while two errors are looked at. -/
structure Ev (w : World) (ob : Nat) (c : Int) (W : World) : Prop where
  et : ErrT W
  bel : Below w.heap.size w W
  blk : Blk W ob 38 #[.int .i64 c, .slice none 0 0]
theorem Ev.step {w W W' : World} {ob : Nat} {c : Int} (h : Ev w ob c W) (hb : Below W.heap.size W W') : Ev w ob c W' :=
  ⟨h.et.below hb h.et.lt, h.bel.trans (hb.mono h.bel.size), h.blk.below hb h.blk.lt⟩
theorem Ev.drew {w W : World} {ob : Nat} {c : Int} (h : Ev w ob c W) : Ev w ob c W.drew := h.step (Below.refl _ W).drew
theorem Ev.cells {w W : World} {ob : Nat} {c : Int} (h : Ev w ob c W) : W.cell? ⟨ob, 0, none⟩ = some (.int .i64 c) ∧ W.cell? ⟨ob, 1, none⟩ = some (.slice none 0 0) :=
  ⟨by simpa using h.blk.cell 0, by simpa using h.blk.cell 1⟩
set_option maxRecDepth 100000 in
set_option maxHeartbeats 1600000 in
theorem err_same (c : Int) (w : World) (hg : ErrT w) : Calls Tryd.prog 21 #[codeV c, .agg #[.int .i64 c, .slice none 0 0]] w fun e w' => e = .returned (.bool true) ∧ Below w.heap.size w w' := by
  have hb0 : Below w.heap.size w (w.alloc (.cells #[.int .i64 c, .slice none 0 0] 38)) := (Below.refl w.heap.size w).alloc (Nat.le_refl _) _
  have EV : Hid (Ev w w.heap.size c (w.alloc (.cells #[.int .i64 c, .slice none 0 0] 38))) := ⟨hg.below hb0 hg.lt, hb0, Blk.new _ _ _⟩
  clear hg hb0
  have hof := hid (of_any c)
  have hpa := hid (path_any c)
  by_cases h0 : c = 0
  all_goals
    first
      | (simp only [codeV, if_pos h0] at hof hpa ⊢
         have h1 : (c == 0) = true := by simpa using h0)
      | (simp only [codeV, if_neg h0] at hof hpa ⊢
         have h1 : (c == 0) = false := by simpa using h0)
    clear h0
    go_enter Tryd.func21, Tryd.ntmps21
    go_wp2_with fail
    obtain ⟨b0, b1⟩ := EV.out.cells
    generalize w.alloc (.cells #[.int .i64 c, .slice none 0 0] 38) = wq at *
    go_region_held3 (fun W => W.cell? ⟨w.heap.size, 0, none⟩ = some (.int .i64 c) ∧ W.cell? ⟨w.heap.size, 1, none⟩ = some (.slice none 0 0))
      (first
        | exact ⟨b0, b1⟩
        | exact ⟨d0, d1⟩
        | exact ⟨f0, f1⟩)
      (first
        | (go_at_call 66
           refine (err_ok _ _ _).mono ?_
           rintro e w2 ⟨rfl, hb2⟩
           have E2 := hid (Ev.step (by first | exact EV.out | exact EV.out.drew) hb2)
           obtain ⟨d0, d1⟩ := E2.out.cells
           clear hb2)
        | (go_at_call 67
           refine (hof.out _ (by exact E2.out.et)).mono ?_
           rintro e w3 ⟨rfl, hb3⟩
           have E3 := hid (E2.out.step hb3)
           obtain ⟨f0, f1⟩ := E3.out.cells
           clear hb3))
    all_goals
      go_wp2_with fail
      refine (hpa.out _ (by first | exact E3.out.et | exact E3.out.drew.et)).mono ?_
      rintro e w4 ⟨rfl, hb4⟩
      have E4 := hid (Ev.step (by first | exact E3.out | exact E3.out.drew) hb4)
      obtain ⟨g0, g1⟩ := E4.out.cells
      clear hb4
      go_wp2_with fail
      refine wp_loop_rounds 1 ?_
      rw [rounds_succ]
      go_wp2_with fail
      go_ret
      exact ⟨rfl, E4.out.bel⟩
end Go.Proofs.YtnlfnknkiggejaaDoor
