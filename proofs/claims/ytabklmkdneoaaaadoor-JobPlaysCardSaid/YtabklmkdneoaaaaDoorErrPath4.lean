/- fault.Path at an error with a path: the walk. -/
import Derived.Test.YtabklmkdneoaaaaDoorErrPath3
namespace Go.Proofs.YtabklmkdneoaaaaDoor
open Go.RowKit

theorem stepCells_snoc (q : PathS) (s : ByteArray) (p : Int) : stepCells q ++ [.string s, .int .i64 p] = stepCells (q ++ [(s, p)]) := by rw [stepCells_append]; rfl
theorem as_hitb (fb tb : Nat) (t : TypeId) (z : Value) (w : World) (hg : ErrT w) (hb : Blk w tb t #[z]) :
    Calls Tryd.prog 76 #[.iface 151 (.pointer (some ⟨fb, 0, none⟩)), .iface 152 (.pointer (some ⟨tb, 0, none⟩))] w fun ev w' => ev = .returned (.bool true) ∧ Only (· = tb) w w' ∧ Blk w' tb t #[.pointer (some ⟨fb, 0, none⟩)] := by
  refine (as_hit0 _ _ z w hg (by have := hb.cell 0; simpa using this) (hb.frozen 0)).mono ?_
  rintro e w' ⟨rfl, rfl⟩
  refine ⟨rfl, Only.setCell (S := (· = tb)) (p := ⟨tb, 0, none⟩) (((((Only.refl _ w).alloc _).alloc _).alloc _).alloc _) (fun _ => rfl) _, ?_⟩
  have := ((((hb.alloc (.cells #[.pointer (some ⟨tb, 0, none⟩)] 152)).alloc (.cells #[.pointer (some ⟨1, 152, none⟩), .pointer (some ⟨w.heap.size, 0, none⟩), .int .u64 150] 158)).alloc (.cells #[.pointer (some ⟨1, 152, none⟩), .pointer (some ⟨w.heap.size, 0, none⟩), .int .u64 150] 158)).alloc (.cells #[.pointer (some ⟨fb, 0, none⟩)] 151)).put 0 (.pointer (some ⟨fb, 0, none⟩))
  simpa using this
def PathRes (q : PathS) (w : World) (e : Ending) (w' : World) : Prop := ∃ pv, e = .returned pv ∧ Steps w' pv q ∧ Below w.heap.size w w'
set_option maxRecDepth 100000 in
set_option maxHeartbeats 2000000 in
theorem path_path (c : Int) (q : PathS) (v : Value) (w : World) (hv : ErrV w c q v) (hg : ErrT w) (hq : q.length ≤ 1000) : Calls Tryd.prog 70 #[v] w (PathRes q w) := by
  obtain ⟨i0, hi0, hz0, hz1, hz2⟩ := info_parts info_step
  have IP := hid (And.intro hi0 (And.intro hz0 (And.intro hz1 hz2)))
  clear hi0 hz0 hz1 hz2
  have hpos := hg.lt
  have hb0 : Below w.heap.size w (w.alloc (.cells #[.pointer none] 151)) := (Below.refl w.heap.size w).alloc (Nat.le_refl _) _
  have P0 : Hid (PathRel w c q [] q (.slice none 0 0) v (w.alloc (.cells #[.pointer none] 151))) :=
    ⟨rfl, World.ownsRow_nil _ _ _ _, hv.below hb0, hb0, ⟨_, Blk.new _ _ _⟩, hg.below hb0 hg.lt⟩
  clear hv hg hb0
  go_enter Tryd.func70, Tryd.ntmps70
  go_wp2_with fail
  go_loopg [3, 5] q.length (fun k lv ev wr => ∃ (pre r : PathS), r.length = k ∧ PathRel w c q pre r lv ev wr)
  case atStart => exact ⟨[], q, rfl, P0.out⟩
  case round =>
    clear P0
    obtain ⟨pre, r, hr, hP⟩ := hrel
    have HR := hid hr
    clear hr
    cases r with
    | nil =>
      obtain rfl := hP.ev
      have P := hid hP
      clear hP
      go_wp2_with fail
      refine (as_fault c ⟨w.heap.size, 0, none⟩ _ P.out.et).mono ?_
      rintro e w' ⟨rfl, hb⟩
      have B := hid hb
      clear hb
      go_wp2_with fail
      go_ret
      have hq : q = pre := by have := P.out.eq; simpa using this
      refine ⟨_, rfl, ?_, P.out.bel.trans (B.out.mono P.out.bel.size)⟩
      have := own_keep2 (S := fun _ => False) P.out.own ⟨B.out.os, B.out.tape, B.out.output, B.out.size, fun k hk _ => B.out.block k hk⟩ (fun _ _ h => h)
      rw [hq]
      exact steps_of_own this
    | cons a r =>
      obtain ⟨s, p⟩ := a
      obtain ⟨fb, inner, rfl, hblk, hin⟩ := hP.ev
      obtain ⟨z, hbox⟩ := hP.box
      have hl : pre.length + 1 ≤ 1000 := by have := congrArg List.length hP.eq; simp at this; omega
      have P := hid (And.intro hP (And.intro hblk (And.intro hin hbox)))
      clear hP hblk hin hbox
      go_wp2_with fail
      refine (as_hitb fb w.heap.size _ z _ P.out.1.et (by exact P.out.2.2.2)).mono ?_
      rintro e w2 ⟨rfl, ho, hbox2⟩
      have hc : w2.cell? ⟨w.heap.size, 0, none⟩ = some (.pointer (some ⟨fb, 0, none⟩)) := by have := hbox2.cell 0; simpa using this
      have hne : fb ≠ w.heap.size := P.out.2.1.apart P.out.2.2.2 (by decide)
      have hblk2 := P.out.2.1.keep ho hne
      have hS : ∀ k cs, k = w.heap.size → ¬ Blk wr k 154 cs := by
        rintro k cs rfl hk
        exact hk.apart P.out.2.2.2 (by decide) rfl
      have hin2 := ErrV.only ho hS P.out.2.2.1
      have hown2 := own_keep2 P.out.1.own ho (fun k hk => by have := (P.out.1.own.lt k hk).1; omega)
      have hbel2 : Below w.heap.size w w2 := P.out.1.bel.trans ⟨ho.os, ho.tape, ho.output, ho.size, fun k hk => ho.block k (by have := P.out.1.bel.size; omega) (by omega)⟩
      have het2 : ErrT w2 := P.out.1.et.below (B := w.heap.size) ⟨ho.os, ho.tape, ho.output, ho.size, fun k hk => ho.block k (by have := P.out.1.bel.size; omega) (by omega)⟩ hpos
      have P2 := hid (And.intro hblk2 (And.intro hin2 (And.intro hown2 (And.intro hbel2 (And.intro het2 hbox2)))))
      have f0 := hblk2.cell 0
      have f1 := hblk2.cell 1
      have f2 := hblk2.cell 2
      simp at f0 f1 f2
      have hfl := hblk2.lt
      have hbl := hbox2.lt
      have KC : Hid (∀ (o : Obj) (p : Addr), p.block < w2.heap.size → (w2.alloc o).drew.cell? p = w2.cell? p) := fun o p h => World.cell?_alloc_lt _ _ _ h
      clear ho hblk2 hin2 hown2 hbel2 het2 hbox2 hS
      go_wp2_with fail
      go_region_held3 (fun W => W.cell? ⟨w.heap.size, 0, none⟩ = some (.pointer (some ⟨fb, 0, none⟩)) ∧ W.cell? ⟨fb, 0, none⟩ = some (.string s) ∧ W.cell? ⟨fb, 1, none⟩ = some (.int .i64 p))
        (first
          | exact ⟨hc, f0, f1⟩
          | exact ⟨gb, g0, g1⟩
          | exact ⟨(KC.out _ ⟨w.heap.size, 0, none⟩ hbl).trans hc, (KC.out _ ⟨fb, 0, none⟩ hfl).trans f0, (KC.out _ ⟨fb, 1, none⟩ hfl).trans f1⟩)
        (first
          | ((refine step_append_form _ (by rfl) (.tmp 14) (.tmp 24) _ (by rfl) (w.heap.size + 1) 126 i0 (.agg #[.string ⟨#[]⟩, .int .i64 0]) 2 24 Tryd.underlying123 IP.out.1 IP.out.2.1 IP.out.2.2.1 IP.out.2.2.2 rfl (by omega) u3 pre.length (stepCells pre) (by rfl) (by first | exact (P2.out.2.2.1.drew).alloc _ | exact (P2.out.2.2.1.alloc _).drew) (.slice (some ⟨w2.heap.size, 0, none⟩) 1 1) 1 [.string s, .int .i64 p] (by rfl) (by first | exact blk_from2 (Blk.new w2 126 #[.string s, .int .i64 p]) rfl | exact blk_from2 (Blk.new w2.drew 126 #[.string s, .int .i64 p]) rfl) (by simp [Value.oneCell']) (.inr (by omega)) (by unfold maxLen; omega) (by omega) (by have := P2.out.2.2.2.2.2.lt; simp; omega) (pre ++ [(s, p)]).length (stepCells (pre ++ [(s, p)])) (by simp) (stepCells_snoc _ _ _) ?_
              intro g cap w3 hown hgrow hat hlt1
              have hz3 := hgrow.size
              have hrw : u3.ownBlock ≠ some fb := fun e => by
                rcases P2.out.2.2.1.2 with ⟨h1, _⟩ | ⟨g0, c0, cur, h1, _, h2, _⟩
                · rw [h1] at e; simp [Value.ownBlock] at e
                · rw [h1] at e
                  simp [Value.ownBlock] at e
                  subst e
                  exact absurd rfl (Blk.apart (t := 126) h2 P2.out.1 (by decide))
              have gb : w3.cell? ⟨w.heap.size, 0, none⟩ = some (.pointer (some ⟨fb, 0, none⟩)) := by
                have h1 := hgrow.block w.heap.size (by simp; omega) (fun e => by have := (P2.out.2.2.1.lt _ e.symm).1; omega)
                rw [World.cell?_of_block (a := ⟨w.heap.size, 0, none⟩) h1]
                exact (KC.out _ ⟨w.heap.size, 0, none⟩ hbl).trans hc
              have hfb := hgrow.block fb (by simp; omega) (fun e => hrw e.symm)
              have gf : w3.cell? ⟨fb, 2, none⟩ = some inner := by
                rw [World.cell?_of_block (a := ⟨fb, 2, none⟩) hfb]
                exact (KC.out _ ⟨fb, 2, none⟩ hfl).trans f2
              have g0 : w3.cell? ⟨fb, 0, none⟩ = some (.string s) := by
                rw [World.cell?_of_block (a := ⟨fb, 0, none⟩) hfb]
                exact (KC.out _ ⟨fb, 0, none⟩ hfl).trans f0
              have g1 : w3.cell? ⟨fb, 1, none⟩ = some (.int .i64 p) := by
                rw [World.cell?_of_block (a := ⟨fb, 1, none⟩) hfb]
                exact (KC.out _ ⟨fb, 1, none⟩ hfl).trans f1
              clear hfb hrw)))
      all_goals
        have P3 : Hid (PathRel w c q (pre ++ [(s, p)]) r (.slice (some ⟨g, 0, none⟩) (pre ++ [(s, p)]).length cap) inner w3) := by
          have hbd : Below w2.heap.size w2 ((w2.alloc (.cells #[.string s, .int .i64 p] 126)).drew) := ((Below.refl _ _).alloc (Nat.le_refl _) _).drew
          have hon : Only (fun k => u3.ownBlock = some k) w2 w3 := ⟨hgrow.os.trans hbd.os, hgrow.tape.trans hbd.tape, hgrow.output.trans hbd.output, Nat.le_trans hbd.size hgrow.size, fun k hk hn => (hgrow.block k (by have := hbd.size; omega) (fun e => hn e.symm)).trans (hbd.block k hk)⟩
          have hrow : ∀ k cs, u3.ownBlock = some k → ¬ Blk w2 k 154 cs := by
            intro k cs e hk
            rcases P2.out.2.2.1.2 with ⟨h1, _⟩ | ⟨g0, c0, cur, h1, _, h2, _⟩
            · rw [h1] at e; simp [Value.ownBlock] at e
            · rw [h1] at e
              simp [Value.ownBlock] at e
              subst e
              exact absurd rfl (Blk.apart (t := 126) h2 hk (by decide))
          have hbase : ∀ k, u3.ownBlock = some k → w.heap.size + 1 ≤ k := fun k e => (P2.out.2.2.1.lt k e).1
          refine ⟨by rw [P.out.1.eq]; simp, hown, ErrV.only hon hrow P2.out.2.1, ?_, ⟨_, P2.out.2.2.2.2.2.keep hon (fun e => by have := hbase _ e; omega)⟩, ?_⟩
          · exact P2.out.2.2.2.1.trans ⟨hon.os, hon.tape, hon.output, hon.size, fun k hk => hon.block k (by omega) (fun e => by have := hbase _ e; omega)⟩
          · exact P2.out.2.2.2.2.1.below (B := w.heap.size) ⟨hon.os, hon.tape, hon.output, hon.size, fun k hk => hon.block k (by omega) (fun e => by have := hbase _ e; omega)⟩ hpos
        clear hgrow hown hat hlt1 f0 f1 f2 hc
        go_wp2_with fail
        have hr := HR.out
        go_roundg (gk - 1)
        case measure => simp at hr; omega
        case rel =>
          have h3 := P3.out
          rw [List.length_append] at h3
          exact ⟨pre ++ [(s, p)], r, by simp at hr; omega, h3⟩
end Go.Proofs.YtabklmkdneoaaaaDoor
