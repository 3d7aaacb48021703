/- Chapter 27: Copy, run, Apply; alike; first; Replay. -/
import Derived.Test.YtabklmkdneoaaaaDoorJobC
import Derived.Test.YtabklmkdneoaaaaDoorIntsSame
/- Chapter 27: Copy, run, Apply, Replay: the walks. -/
namespace Go.Proofs.YtabklmkdneoaaaaDoor
open Go.RowKit

set_option maxRecDepth 100000 in
set_option maxHeartbeats 1000000 in
theorem jcopy_any (b mb : Nat) (s : JobS) (w : World) (h : JobAt b mb s w) : Calls Tryd.prog 50 #[.pointer (some ⟨b, 0, none⟩)] w fun e w' => ∃ b' mb', e = .returned (.pointer (some ⟨b', 0, none⟩)) ∧ JobAt b' mb' s w' ∧ Below w.heap.size w w' ∧ w.heap.size ≤ b' ∧ w.heap.size ≤ mb' := by
  obtain ⟨c0, c1, c2, c3, c4⟩ := h.cells
  obtain ⟨e0, e1, e2, e3, e4⟩ := h.ecells
  have hba : Below w.heap.size w (w.alloc (.cells (jobCells mb s) 141)) := (Below.refl _ _).alloc (Nat.le_refl _) _
  have J := hid (And.intro (h.below hba) (And.intro (Blk.new w 141 (jobCells mb s)) hba))
  have HC := hid (fun W (hW : MapAt W mb s.d) => clone_any mb s.d W hW)
  obtain ⟨k0, k1, k2, k3, k4⟩ := J.out.1.cells
  have hlt := h.blk.lt
  unfold jobCells at J k0 k1 k2 k3 k4
  obtain ⟨st, sm, ch, cd, d, ⟨r0, r1, r2, r3, r4⟩⟩ := s
  dsimp only at *
  clear h hba
  go_enter Tryd.func50, Tryd.ntmps50
  go_wp2_with fail
  refine (HC.out _ (by exact J.out.1.map)).mono ?_
  rintro e w2 ⟨rfl, hM, h2⟩
  have B2 := J.out.2.1.below h2 J.out.2.1.lt
  have f4 := B2.frozen 4
  have D4 : w2.cell? ⟨w.heap.size, 4, none⟩ = some (.map (some mb)) := by rw [B2.cell]; rfl
  have R2 := hid (And.intro B2 (And.intro hM h2))
  clear B2 hM h2 c0 c1 c2 c3 c4 e0 e1 e2 e3 e4
  go_wp2_with fail
  go_ret
  have hsz : (w.alloc (.cells #[.int .i64 st, .int .i64 sm, .int .i64 ch, .int .i64 cd, .map (some mb), .int .i64 r0, .int .i64 r1, .int .i64 r2, .int .i64 r3, .int .i64 r4] 141)).heap.size = w.heap.size + 1 := by simp
  have hM := R2.out.2.1
  rw [hsz] at hM
  have hO : Only (fun k => k = w.heap.size) w2 (w2.setCell ⟨w.heap.size, 4, none⟩ (.map (some (w.heap.size + 1)))) := (Only.refl (fun k => k = w.heap.size) w2).put (b := w.heap.size) rfl 4 _
  have hbw : Below w.heap.size w w2 := J.out.2.2.trans (R2.out.2.2.mono (by rw [hsz]; omega))
  refine ⟨w.heap.size, w.heap.size + 1, rfl, ⟨?_, hM.keep hO (by omega), by omega⟩, hbw.trans ⟨hO.os, hO.tape, hO.output, hO.size, fun k hk => hO.block k (by have := hbw.size; omega) (by omega)⟩, Nat.le_refl _, by omega⟩
  have hp := R2.out.1.put 4 (.map (some (w.heap.size + 1)))
  simpa [jobCells] using hp
/-- A record's block; a job. -/
structure RJ (w : World) (r : RecS) (b mb : Nat) (s : JobS) (W : World) : Prop where
  r : Blk W w.heap.size 73 #[.int .i64 r.kind, .int .i64 r.sum, .int .i64 r.num, .int .i64 r.len, .int .i64 r.code]
  j : JobAt b mb s W
  lt : b < w.heap.size
  mlt : mb < w.heap.size
  only : Only (JF2 b mb) w W
theorem RJ.new {w : World} {r : RecS} {b mb : Nat} {s : JobS} (h : JobAt b mb s w) : RJ w r b mb s (w.alloc (.cells #[.int .i64 r.kind, .int .i64 r.sum, .int .i64 r.num, .int .i64 r.len, .int .i64 r.code] 73)) :=
  ⟨Blk.new _ _ _, h.below ((Below.refl _ _).alloc (Nat.le_refl _) _), h.blk.lt, h.map.lt, (Only.refl _ _).alloc _⟩
theorem RJ.cells {w W : World} {r : RecS} {b mb : Nat} {s : JobS} (h : RJ w r b mb s W) : W.cell? ⟨w.heap.size, 0, none⟩ = some (.int .i64 r.kind) ∧ W.cell? ⟨w.heap.size, 1, none⟩ = some (.int .i64 r.sum) ∧ W.cell? ⟨w.heap.size, 2, none⟩ = some (.int .i64 r.num) ∧ W.cell? ⟨w.heap.size, 3, none⟩ = some (.int .i64 r.len) ∧ W.cell? ⟨w.heap.size, 4, none⟩ = some (.int .i64 r.code) := by
  refine ⟨?_, ?_, ?_, ?_, ?_⟩ <;> (rw [h.r.cell]; rfl)
theorem RJ.step {w W W' : World} {r : RecS} {b mb : Nat} {s : JobS} (h : RJ w r b mb s W) (hb : Below W.heap.size W W') : RJ w r b mb s W' :=
  ⟨h.r.below hb h.r.lt, h.j.below hb, h.lt, h.mlt, h.only.trans (Only.of_below hb)⟩
theorem blk5 {W : World} {g : Nat} {t : TypeId} {a0 a1 a2 a3 a4 : Value} (h : Blk W g t #[a0, a1, a2, a3, a4]) : W.cell? ⟨g, 0, none⟩ = some a0 ∧ W.cell? ⟨g, 1, none⟩ = some a1 ∧ W.cell? ⟨g, 2, none⟩ = some a2 ∧ W.cell? ⟨g, 3, none⟩ = some a3 ∧ W.cell? ⟨g, 4, none⟩ = some a4 := by
  refine ⟨?_, ?_, ?_, ?_, ?_⟩ <;> (rw [h.cell]; rfl)
/-- Some cells of the job are written. -/
theorem RJ.wrote {w W W' : World} {r : RecS} {b mb : Nat} {s s' : JobS} {cs : Array Value} (h : RJ w r b mb s W) (ho : Only (fun k => k = b) W W') (hB : Blk W' b 141 cs) (hcs : cs = jobCells mb s') (hd : s'.d = s.d) : JobAt b mb s' W' ∧ Only (JF2 b mb) w W' :=
  ⟨⟨by rw [← hcs]; exact hB, by rw [hd]; exact h.j.map.keep ho (fun e => h.j.ne e.symm), h.j.ne⟩, h.only.trans (ho.mono fun k _ hk => .inl hk)⟩
def RunRes (b mb : Nat) (c : Int) (s' : JobS) (w : World) (e : Ending) (w' : World) : Prop := e = .returned (codeV c) ∧ JobAt b mb s' w' ∧ Only (JF2 b mb) w w'
set_option maxRecDepth 100000 in
set_option maxHeartbeats 1000000 in
theorem run_done_bad (b mb : Nat) (s : JobS) (r : RecS) (w : World) (h : JobAt b mb s w) (hk : r.kind = 49) (hn : s.ch ≤ r.num) : Calls Tryd.prog 84 #[.pointer (some ⟨b, 0, none⟩), r.val] w (RunRes b mb 3 s w) := by
  have R := hid (RJ.new (r := r) h)
  obtain ⟨c0, c1, c2, c3, c4⟩ := R.out.j.cells
  obtain ⟨k, r1, r2, r3, r4⟩ := r
  have hk' : k = 49 := hk
  subst hk'
  have hn' : s.ch ≤ r2 := hn
  obtain ⟨p0, p1, p2, p3, p4⟩ := R.out.cells
  unfold RecS.val
  dsimp only at *
  clear h hk hn
  go_enter Tryd.func84, Tryd.ntmps84
  go_wp2_with fail
  go_quiet (fail)
  go_wp2_with fail
  go_ret
  have R2 := R.out.step (bel_drewN _ nq)
  exact ⟨rfl, R2.j, R2.only⟩
set_option maxRecDepth 100000 in
set_option maxHeartbeats 1000000 in
theorem run_done (b mb : Nat) (s : JobS) (r : RecS) (n : Nat) (w : World) (h : JobAt b mb s w) (hd : s.d.length = 16) (hk : r.kind = 49) (hnn : r.num = n) (hn : r.num < s.ch) (hch : s.ch ≤ 16) : Calls Tryd.prog 84 #[.pointer (some ⟨b, 0, none⟩), r.val] w (RunRes b mb 0 { s with d := s.d.set n (some r) } w) := by
  have R := hid (RJ.new (r := r) h)
  obtain ⟨c0, c1, c2, c3, c4⟩ := R.out.j.cells
  obtain ⟨k, r1, r2, r3, r4⟩ := r
  have hk' : k = 49 := hk
  have hr2 : r2 = n := hnn
  subst hk' hr2
  have hn' : (n : Int) < s.ch := hn
  obtain ⟨p0, p1, p2, p3, p4⟩ := R.out.cells
  have R1 := hid (fun q => R.out.step (bel_drewN _ q))
  unfold RecS.val
  dsimp only at *
  clear h hk hn hnn
  go_enter Tryd.func84, Tryd.ntmps84
  go_wp2_with fail
  go_quiet (fail)
  go_wp2_with fail
  have R2 := hid (R1.out nq)
  clear R1 R c0 c1 c2 c3 c4 p0 p1 p2 p3 p4
  generalize World.drewN (w.alloc (.cells #[.int .i64 49, .int .i64 r1, .int .i64 n, .int .i64 r3, .int .i64 r4] 73)) nq = W2 at *
  obtain ⟨c0, c1, c2, c3, c4⟩ := R2.out.j.cells
  obtain ⟨p0, p1, p2, p3, p4⟩ := R2.out.cells
  dsimp only at p0 p1 p2 p3 p4
  obtain ⟨w2, hrun, hM, hO⟩ := MapAt.put (w := W2.drew) R2.out.j.map n ⟨49, r1, n, r3, r4⟩ (by omega) hd
  unfold RecS.val at hrun
  dsimp only at hrun
  have hkeep : w2.cell? ⟨b, 4, none⟩ = some (.map (some mb)) ∧ w2.cell? ⟨w.heap.size, 0, none⟩ = some (.int .i64 49) ∧ w2.cell? ⟨w.heap.size, 1, none⟩ = some (.int .i64 r1) ∧ w2.cell? ⟨w.heap.size, 2, none⟩ = some (.int .i64 n) ∧ w2.cell? ⟨w.heap.size, 3, none⟩ = some (.int .i64 r3) ∧ w2.cell? ⟨w.heap.size, 4, none⟩ = some (.int .i64 r4) := by
    have hj := R2.out.j.blk.drew.keep hO R2.out.j.ne
    have hr := R2.out.r.drew.keep hO (by have := R2.out.mlt; omega)
    refine ⟨?_, ?_, ?_, ?_, ?_, ?_⟩
    · rw [hj.cell]; rfl
    all_goals (rw [hr.cell]; rfl)
  have HK := hid (And.intro hkeep (And.intro hM hO))
  clear hkeep hM hO
  go_region_held3 (fun W => W.cell? ⟨b, 4, none⟩ = some (.map (some mb)) ∧ W.cell? ⟨w.heap.size, 0, none⟩ = some (.int .i64 49) ∧ W.cell? ⟨w.heap.size, 1, none⟩ = some (.int .i64 r1) ∧ W.cell? ⟨w.heap.size, 2, none⟩ = some (.int .i64 n) ∧ W.cell? ⟨w.heap.size, 3, none⟩ = some (.int .i64 r3) ∧ W.cell? ⟨w.heap.size, 4, none⟩ = some (.int .i64 r4)) (first | exact HK.out.1 | exact ⟨c4, p0, p1, p2, p3, p4⟩) (fail)
  all_goals
    go_wp2_with fail
    go_ret
    obtain ⟨_, hM, hO⟩ := HK.out
    exact ⟨rfl, ⟨R2.out.j.blk.drew.keep hO R2.out.j.ne, hM, R2.out.j.ne⟩, R2.out.only.drew.trans (hO.mono fun k _ hk => .inr hk)⟩
set_option maxRecDepth 100000 in
set_option maxHeartbeats 1000000 in
theorem run_fail_bad (b mb : Nat) (s : JobS) (r : RecS) (w : World) (h : JobAt b mb s w) (hk : r.kind = 50) (hn : 0 < s.ch) : Calls Tryd.prog 84 #[.pointer (some ⟨b, 0, none⟩), r.val] w (RunRes b mb 14 s w) := by
  have R := hid (RJ.new (r := r) h)
  obtain ⟨c0, c1, c2, c3, c4⟩ := R.out.j.cells
  obtain ⟨k, r1, r2, r3, r4⟩ := r
  have hk' : k = 50 := hk
  subst hk'
  obtain ⟨p0, p1, p2, p3, p4⟩ := R.out.cells
  unfold RecS.val
  dsimp only at *
  clear h hk
  go_enter Tryd.func84, Tryd.ntmps84
  go_wp2_with fail
  go_ret
  exact ⟨rfl, R.out.j, R.out.only⟩
set_option maxRecDepth 100000 in
set_option maxHeartbeats 1000000 in
theorem run_fail (b mb : Nat) (s : JobS) (r : RecS) (w : World) (h : JobAt b mb s w) (hk : r.kind = 50) (hn : s.ch ≤ 0) : Calls Tryd.prog 84 #[.pointer (some ⟨b, 0, none⟩), r.val] w (RunRes b mb 0 { s with st := 2, cd := r.code } w) := by
  have R := hid (RJ.new (r := r) h)
  obtain ⟨c0, c1, c2, c3, c4⟩ := R.out.j.cells
  have f0 := R.out.j.blk.frozen 0
  have f3 := R.out.j.blk.frozen 3
  have hne : ¬ b = w.heap.size := by have := R.out.lt; omega
  have hne2 : ¬ w.heap.size = b := by omega
  obtain ⟨k, r1, r2, r3, r4⟩ := r
  have hk' : k = 50 := hk
  subst hk'
  obtain ⟨p0, p1, p2, p3, p4⟩ := R.out.cells
  unfold RecS.val
  dsimp only at *
  clear h hk
  go_enter Tryd.func84, Tryd.ntmps84
  go_wp2_with fail
  go_region_held3 (fun W => W.cell? ⟨w.heap.size, 4, none⟩ = some (.int .i64 r4)) (first | exact p4 | go_keep) (fail)
  all_goals
    go_wp2_with fail
    go_ret
    have hB := ((R.out.j.blk.put 0 (.int .i64 2)).put 3 (.int .i64 r4)).drew
    obtain ⟨hj, ho⟩ := R.out.wrote (s' := { s with st := 2, cd := r4 }) (((Only.refl (fun k => k = b) _).put (b := b) rfl 0 _).put (b := b) rfl 3 _).drew hB (by simp [jobCells]) rfl
    exact ⟨rfl, hj, ho⟩
set_option maxRecDepth 100000 in
set_option maxHeartbeats 2000000 in
theorem run_end_bad (b mb : Nat) (s : JobS) (r : RecS) (w : World) (h : JobAt b mb s w) (hk : r.kind ≠ 49) (hk2 : r.kind ≠ 50) (hn : s.ch = 0 ∨ (cntD s.d : Int) < s.ch) : Calls Tryd.prog 84 #[.pointer (some ⟨b, 0, none⟩), r.val] w (RunRes b mb 14 s w) := by
  have R := hid (RJ.new (r := r) h)
  obtain ⟨c0, c1, c2, c3, c4⟩ := R.out.j.cells
  obtain ⟨k, r1, r2, r3, r4⟩ := r
  have R1 := hid (fun q => R.out.step (bel_drewN _ q))
  have hlen : ∀ (ty : TypeId) (q : Nat), (Builtin.len_ #[139] ty #[.map (some mb)]).run Tryd.prog (World.drewN (w.alloc (.cells #[.int .i64 k, .int .i64 r1, .int .i64 r2, .int .i64 r3, .int .i64 r4] 73)) q) = .ok (.int .i64 (cntD s.d)) (World.drewN (w.alloc (.cells #[.int .i64 k, .int .i64 r1, .int .i64 r2, .int .i64 r3, .int .i64 r4] 73)) q) := fun ty q => (R1.out q).j.map.len ty
  have k1 : (k == 49) = false := by simpa using hk
  have k2 : (k == 50) = false := by simpa using hk2
  obtain ⟨p0, p1, p2, p3, p4⟩ := R.out.cells
  unfold RecS.val
  dsimp only at *
  clear h hk hk2
  go_enter Tryd.func84, Tryd.ntmps84
  by_cases h0 : s.ch = 0
  · have d1 : (s.ch == 0) = true := by simp [h0]
    go_wp2_with fail
    go_quiet (fail)
    go_wp2_with fail
    go_ret
    exact ⟨rfl, (R1.out nq).j, (R1.out nq).only⟩
  · have d1 : (s.ch == 0) = false := by simp [h0]
    have d2 : decide ((cntD s.d : Int) < s.ch) = true := by simp; omega
    have d3 : (cntD s.d : Int) < s.ch := by omega
    clear hn
    go_wp2_with fail
    go_quiet (fail)
    go_wp2_with fail
    go_ret
    exact ⟨rfl, (R1.out nq).j, (R1.out nq).only⟩
set_option maxRecDepth 100000 in
set_option maxHeartbeats 2000000 in
theorem run_end (b mb : Nat) (s : JobS) (r : RecS) (w : World) (h : JobAt b mb s w) (hk : r.kind ≠ 49) (hk2 : r.kind ≠ 50) (h0 : s.ch ≠ 0) (hn : s.ch ≤ (cntD s.d : Int)) : Calls Tryd.prog 84 #[.pointer (some ⟨b, 0, none⟩), r.val] w (RunRes b mb 0 { s with st := 3, e := r } w) := by
  have R := hid (RJ.new (r := r) h)
  obtain ⟨c0, c1, c2, c3, c4⟩ := R.out.j.cells
  obtain ⟨k, r1, r2, r3, r4⟩ := r
  have R1 := hid (fun q => R.out.step (bel_drewN _ q))
  have hlen : ∀ (ty : TypeId) (q : Nat), (Builtin.len_ #[139] ty #[.map (some mb)]).run Tryd.prog (World.drewN (w.alloc (.cells #[.int .i64 k, .int .i64 r1, .int .i64 r2, .int .i64 r3, .int .i64 r4] 73)) q) = .ok (.int .i64 (cntD s.d)) (World.drewN (w.alloc (.cells #[.int .i64 k, .int .i64 r1, .int .i64 r2, .int .i64 r3, .int .i64 r4] 73)) q) := fun ty q => (R1.out q).j.map.len ty
  have k1 : (k == 49) = false := by simpa using hk
  have k2 : (k == 50) = false := by simpa using hk2
  have d1 : (s.ch == 0) = false := by simp [h0]
  have d2 : decide ((cntD s.d : Int) < s.ch) = false := by simp; omega
  obtain ⟨p0, p1, p2, p3, p4⟩ := R.out.cells
  unfold RecS.val
  dsimp only at *
  clear h hk hk2 h0
  go_enter Tryd.func84, Tryd.ntmps84
  go_wp2_with fail
  go_quiet (fail)
  go_wp2_with fail
  have R2 := hid (R1.out nq)
  clear R1 R c0 c1 c2 c3 c4 p0 p1 p2 p3 p4 hlen
  generalize World.drewN (w.alloc (.cells #[.int .i64 k, .int .i64 r1, .int .i64 r2, .int .i64 r3, .int .i64 r4] 73)) nq = W2 at *
  obtain ⟨c0, c1, c2, c3, c4⟩ := R2.out.j.cells
  obtain ⟨e0, e1, e2, e3, e4⟩ := R2.out.j.ecells
  obtain ⟨p0, p1, p2, p3, p4⟩ := R2.out.cells
  dsimp only at p0 p1 p2 p3 p4
  have f0 := R2.out.j.blk.frozen 0
  have f5 := R2.out.j.blk.frozen 5
  have f6 := R2.out.j.blk.frozen 6
  have f7 := R2.out.j.blk.frozen 7
  have f8 := R2.out.j.blk.frozen 8
  have f9 := R2.out.j.blk.frozen 9
  have hne : ¬ b = w.heap.size := by have := R2.out.lt; omega
  have hne2 : ¬ w.heap.size = b := by omega
  have K0 := hid (blk5 R2.out.r.drew)
  have K1 := hid (blk5 (R2.out.r.far (p := ⟨b, 0, none⟩) hne2 (.int .i64 3)).drew)
  have K2 := hid (blk5 ((((((R2.out.r.far (p := ⟨b, 0, none⟩) hne2 (.int .i64 3)).far (p := ⟨b, 5, none⟩) hne2 (.int .i64 k)).far (p := ⟨b, 6, none⟩) hne2 (.int .i64 r1)).far (p := ⟨b, 7, none⟩) hne2 (.int .i64 r2)).far (p := ⟨b, 8, none⟩) hne2 (.int .i64 r3)).far (p := ⟨b, 9, none⟩) hne2 (.int .i64 r4)).drew)
  go_region_held3 (fun W => W.cell? ⟨w.heap.size, 0, none⟩ = some (.int .i64 k) ∧ W.cell? ⟨w.heap.size, 1, none⟩ = some (.int .i64 r1) ∧ W.cell? ⟨w.heap.size, 2, none⟩ = some (.int .i64 r2) ∧ W.cell? ⟨w.heap.size, 3, none⟩ = some (.int .i64 r3) ∧ W.cell? ⟨w.heap.size, 4, none⟩ = some (.int .i64 r4))
    (first | with_reducible exact K0.out | with_reducible exact K1.out | with_reducible exact K2.out) (fail)
  all_goals
    go_wp2_with fail
    go_ret
    have hB := ((((((R2.out.j.blk.put 0 (.int .i64 3)).put 5 (.int .i64 k)).put 6 (.int .i64 r1)).put 7 (.int .i64 r2)).put 8 (.int .i64 r3)).put 9 (.int .i64 r4)).drew
    obtain ⟨hj, ho⟩ := R2.out.wrote (s' := { s with st := 3, e := ⟨k, r1, r2, r3, r4⟩ }) ((((((Only.refl (fun k => k = b) _).put (b := b) rfl 0 _).put (b := b) rfl 5 _).put (b := b) rfl 6 _).put (b := b) rfl 7 _).put (b := b) rfl 8 _ |>.put (b := b) rfl 9 _).drew hB (by simp [jobCells]) rfl
    exact ⟨rfl, hj, ho⟩
end Go.Proofs.YtabklmkdneoaaaaDoor
/- Chapter 27: Apply, Replay: the walks. -/
namespace Go.Proofs.YtabklmkdneoaaaaDoor
open Go.RowKit

theorem run_any (b mb : Nat) (s : JobS) (r : RecS) (w : World) (h : JobAt b mb s w) (hi : JI s) (hm : mayR r = true) : Calls Tryd.prog 84 #[.pointer (some ⟨b, 0, none⟩), r.val] w (RunRes b mb (runNo s r) (runJ s r) w) := by
  obtain ⟨_, h0, _, _⟩ := may_bounds hm
  obtain ⟨n, hn⟩ := Int.eq_ofNat_of_zero_le h0
  have hch := hi.ch1
  by_cases hk : r.kind = 49
  · by_cases hc : s.ch ≤ r.num
    · have e1 : runNo s r = 3 := by unfold runNo; rw [if_pos hk, if_pos hc]
      have e2 : runJ s r = s := by unfold runJ; rw [e1, if_pos (by decide)]
      rw [e1, e2]
      exact run_done_bad b mb s r w h hk hc
    · have e1 : runNo s r = 0 := by unfold runNo; rw [if_pos hk, if_neg hc]
      have e2 : runJ s r = { s with d := s.d.set n (some r) } := by unfold runJ; rw [e1, if_neg (by decide), if_pos hk, hn]; rfl
      rw [e1, e2]
      exact run_done b mb s r n w h hi.len hk hn (by omega) hch
  · by_cases hk2 : r.kind = 50
    · by_cases hc : 0 < s.ch
      · have e1 : runNo s r = 14 := by unfold runNo; rw [if_neg hk, if_pos hk2, if_pos hc]
        have e2 : runJ s r = s := by unfold runJ; rw [e1, if_pos (by decide)]
        rw [e1, e2]
        exact run_fail_bad b mb s r w h hk2 hc
      · have e1 : runNo s r = 0 := by unfold runNo; rw [if_neg hk, if_pos hk2, if_neg hc]
        have e2 : runJ s r = { s with st := 2, cd := r.code } := by unfold runJ; rw [e1, if_neg (by decide), if_neg hk, if_pos hk2]
        rw [e1, e2]
        exact run_fail b mb s r w h hk2 (by omega)
    · by_cases hc : s.ch = 0 ∨ (cntD s.d : Int) < s.ch
      · have e1 : runNo s r = 14 := by unfold runNo; rw [if_neg hk, if_neg hk2, if_pos hc]
        have e2 : runJ s r = s := by unfold runJ; rw [e1, if_pos (by decide)]
        rw [e1, e2]
        exact run_end_bad b mb s r w h hk hk2 hc
      · have e1 : runNo s r = 0 := by unfold runNo; rw [if_neg hk, if_neg hk2, if_neg hc]
        have e2 : runJ s r = { s with st := 3, e := r } := by unfold runJ; rw [e1, if_neg (by decide), if_neg hk, if_neg hk2]
        rw [e1, e2]
        exact run_end b mb s r w h hk hk2 (fun e => hc (.inl e)) (by omega)
theorem RunRes.of {b mb : Nat} {c : Int} {s s' : JobS} {r : RecS} {w W : World} {e : Ending} {w' : World} (R : RJ w r b mb s W) (h : RunRes b mb c s' W e w') : RunRes b mb c s' w e w' := ⟨h.1, h.2.1, R.only.trans h.2.2⟩
set_option maxRecDepth 100000 in
set_option maxHeartbeats 2000000 in
theorem apply_any (b mb : Nat) (s : JobS) (r : RecS) (w : World) (h : JobAt b mb s w) (hi : JI s) : Calls Tryd.prog 48 #[.pointer (some ⟨b, 0, none⟩), r.val] w (RunRes b mb (applyNo s r) (applyJ s r) w) := by
  have R := hid (RJ.new (r := r) h)
  have HM := hid (fun W => gmay_any r W)
  unfold applyNo applyJ
  by_cases hm : mayR r = false
  · rw [if_pos hm, if_pos hm]
    rw [hm] at HM
    obtain ⟨k, r1, r2, r3, r4⟩ := r
    unfold RecS.val at *
    dsimp only at *
    clear h hi hm
    go_enter Tryd.func48, Tryd.ntmps48
    go_wp2_with fail
    refine (HM.out _).mono ?_
    rintro e w2 ⟨rfl, h2⟩
    have R2 := hid (R.out.step h2)
    clear h2
    go_wp2_with fail
    go_ret
    exact ⟨rfl, R2.out.j, R2.out.only⟩
  · rw [if_neg hm, if_neg hm]
    have hm' : mayR r = true := by simpa using hm
    rw [hm'] at HM
    by_cases h0 : s.st = 0 ∧ r.kind = 48
    · rw [if_pos h0, if_pos h0]
      have d1 : (s.st == 0) = true := by simp [h0.1]
      have d2 : (r.kind == 48) = true := by simp [h0.2]
      obtain ⟨k, r1, r2, r3, r4⟩ := r
      unfold RecS.val at *
      dsimp only at *
      clear h hi hm hm' h0
      go_enter Tryd.func48, Tryd.ntmps48
      go_wp2_with fail
      refine (HM.out _).mono ?_
      rintro e w2 ⟨rfl, h2⟩
      have R2 := hid (R.out.step h2)
      clear h2
      obtain ⟨c0, c1, c2, c3, c4⟩ := R2.out.j.cells
      obtain ⟨p0, p1, p2, p3, p4⟩ := R2.out.cells
      dsimp only at p0 p1 p2 p3 p4
      have f0 := R2.out.j.blk.frozen 0
      have f1 := R2.out.j.blk.frozen 1
      have f2 := R2.out.j.blk.frozen 2
      have hne : ¬ b = w.heap.size := by have := R2.out.lt; omega
      have hne2 : ¬ w.heap.size = b := by omega
      go_wp2_with fail
      have K0 := hid (blk5 R2.out.r.drew)
      have K1 := hid (blk5 (R2.out.r.far (p := ⟨b, 0, none⟩) hne2 (.int .i64 1)).drew)
      have K2 := hid (blk5 ((R2.out.r.far (p := ⟨b, 0, none⟩) hne2 (.int .i64 1)).far (p := ⟨b, 1, none⟩) hne2 (.int .i64 r1)).drew)
      have K3 := hid (blk5 (((R2.out.r.far (p := ⟨b, 0, none⟩) hne2 (.int .i64 1)).far (p := ⟨b, 1, none⟩) hne2 (.int .i64 r1)).far (p := ⟨b, 2, none⟩) hne2 (.int .i64 r2)).drew)
      go_region_held3 (fun W => W.cell? ⟨w.heap.size, 0, none⟩ = some (.int .i64 k) ∧ W.cell? ⟨w.heap.size, 1, none⟩ = some (.int .i64 r1) ∧ W.cell? ⟨w.heap.size, 2, none⟩ = some (.int .i64 r2) ∧ W.cell? ⟨w.heap.size, 3, none⟩ = some (.int .i64 r3) ∧ W.cell? ⟨w.heap.size, 4, none⟩ = some (.int .i64 r4))
        (first | with_reducible exact K0.out | with_reducible exact K1.out | with_reducible exact K2.out | with_reducible exact K3.out) (fail)
      all_goals
        go_wp2_with fail
        go_ret
        have hB := (((R2.out.j.blk.put 0 (.int .i64 1)).put 1 (.int .i64 r1)).put 2 (.int .i64 r2)).drew
        obtain ⟨hj, ho⟩ := R2.out.wrote (s' := { s with st := 1, sm := r1, ch := r2 }) ((((Only.refl (fun k => k = b) _).put (b := b) rfl 0 _).put (b := b) rfl 1 _).put (b := b) rfl 2 _).drew hB (by simp [jobCells]) rfl
        exact ⟨rfl, hj, ho⟩
    · rw [if_neg h0, if_neg h0]
      by_cases h1 : s.st ≠ 1 ∨ r.kind = 48
      · rw [if_pos h1, if_pos h1]
        have hcase : ((s.st == 0) = false ∧ (s.st != 1) = true) ∨ ((s.st == 0) = true ∧ (s.st != 1) = true ∧ (r.kind == 48) = false) ∨ ((s.st == 0) = false ∧ (s.st != 1) = false ∧ (r.kind == 48) = true) := by
          simp only [beq_iff_eq, beq_eq_false_iff_ne, bne_iff_ne, bne_eq_false_iff_eq]
          omega
        obtain ⟨k, r1, r2, r3, r4⟩ := r
        unfold RecS.val at *
        dsimp only at *
        clear h hi hm hm' h0 h1
        rcases hcase with ⟨d1, d2⟩ | ⟨d1, d2, d3⟩ | ⟨d1, d2, d3⟩
        all_goals
          go_enter Tryd.func48, Tryd.ntmps48
          go_wp2_with fail
          refine (HM.out _).mono ?_
          rintro e w2 ⟨rfl, h2⟩
          have R2 := hid (R.out.step h2)
          clear h2
          obtain ⟨c0, c1, c2, c3, c4⟩ := R2.out.j.cells
          obtain ⟨p0, p1, p2, p3, p4⟩ := R2.out.cells
          dsimp only at p0 p1 p2 p3 p4
          go_wp2_with fail
          go_ret
          exact ⟨rfl, R2.out.j, R2.out.only⟩
      · rw [if_neg h1, if_neg h1]
        have d1 : (s.st == 0) = false := by simp; omega
        have d2 : (s.st != 1) = false := by simp; omega
        have d3 : (r.kind == 48) = false := by simp; omega
        have HR := hid (fun W (hW : JobAt b mb s W) => run_any b mb s r W hW hi hm')
        obtain ⟨k, r1, r2, r3, r4⟩ := r
        unfold RecS.val at *
        dsimp only at *
        clear h hi hm hm' h0 h1
        generalize runNo s ⟨k, r1, r2, r3, r4⟩ = rn at *
        generalize runJ s ⟨k, r1, r2, r3, r4⟩ = rj at *
        go_enter Tryd.func48, Tryd.ntmps48
        go_wp2_with fail
        refine (HM.out _).mono ?_
        rintro e w2 ⟨rfl, h2⟩
        have R2 := hid (R.out.step h2)
        clear h2
        obtain ⟨c0, c1, c2, c3, c4⟩ := R2.out.j.cells
        obtain ⟨p0, p1, p2, p3, p4⟩ := R2.out.cells
        dsimp only at p0 p1 p2 p3 p4
        go_wp2_with fail
        refine (HR.out _ (by exact R2.out.j)).mono ?_
        rintro e w3 ⟨rfl, hj, ho⟩
        have R3 := hid (And.intro hj ho)
        clear hj ho c0 c1 c2 c3 c4 p0 p1 p2 p3 p4
        go_wp2_with fail
        go_ret
        exact ⟨rfl, R3.out.1, R2.out.only.trans R3.out.2⟩
end Go.Proofs.YtabklmkdneoaaaaDoor
/- Chapter 27: first, alike, Replay. -/
namespace Go.Proofs.YtabklmkdneoaaaaDoor
open Go.RowKit

theorem natV_int (l : List Nat) : l.map natV = (l.map fun n : Nat => (n : Int)).map intV := by rw [List.map_map]; rfl
theorem nums_of_miss {W : World} {B : Nat} {lv : Value} {l : List Nat} (h : W.ownsRow B 3 1 lv l.length (l.map natV)) : Nums W lv (l.map fun n : Nat => (n : Int)) :=
  Nums.of_own (by rw [natV_int] at h; exact h) (by simp)
theorem recs_neqF (a0 a1 a2 a3 a4 : Int) (W : World) : (binOp .neq 73 (.agg #[.int .i64 a0, .int .i64 a1, .int .i64 a2, .int .i64 a3, .int .i64 a4]) (.agg #[.int .i64 a0, .int .i64 a1, .int .i64 a2, .int .i64 a3, .int .i64 a4])).run Tryd.prog W = .ok (.bool false) W := by
  go_simp
theorem recs_eqT (a0 a1 a2 a3 a4 : Int) (W : World) : (binOp .eql 73 (.agg #[.int .i64 a0, .int .i64 a1, .int .i64 a2, .int .i64 a3, .int .i64 a4]) (.agg #[.int .i64 a0, .int .i64 a1, .int .i64 a2, .int .i64 a3, .int .i64 a4])).run Tryd.prog W = .ok (.bool true) W := by
  go_simp
/-- Two jobs. -/
structure TwoJ (b1 m1 b2 m2 : Nat) (s t : JobS) (w W : World) : Prop where
  l : JobAt b1 m1 s W
  r : JobAt b2 m2 t W
  bel : Below w.heap.size w W
theorem TwoJ.step {b1 m1 b2 m2 : Nat} {s t : JobS} {w W W' : World} (h : TwoJ b1 m1 b2 m2 s t w W) (hb : Below W.heap.size W W') : TwoJ b1 m1 b2 m2 s t w W' := ⟨h.l.below hb, h.r.below hb, h.bel.trans (hb.mono h.bel.size)⟩
set_option maxRecDepth 100000 in
set_option maxHeartbeats 4000000 in
theorem alike_any (b1 m1 b2 m2 : Nat) (s : JobS) (w : World) (h1 : JobAt b1 m1 s w) (h2 : JobAt b2 m2 s w) (hi : JI s) : Calls Tryd.prog 57 #[.pointer (some ⟨b1, 0, none⟩), .pointer (some ⟨b2, 0, none⟩)] w fun e w' => e = .returned (.bool true) ∧ Below w.heap.size w w' := by
  have T0 := hid (show TwoJ b1 m1 b2 m2 s s w w from ⟨h1, h2, Below.refl _ _⟩)
  have HI := hid hi
  have hq := recs_neqF
  have hq2 := recs_eqT
  clear h1 h2 hi
  go_enter Tryd.func57, Tryd.ntmps57
  go_wp2_with fail
  go_loopg [5] 16 (fun k iv wr => ∃ i : Nat, i + k = 16 ∧ iv = .int .i64 i ∧ TwoJ b1 m1 b2 m2 s s w wr)
  case atStart => exact ⟨0, by omega, rfl, T0.out⟩
  case round =>
    obtain ⟨i, hik, rfl, hT⟩ := hrel
    have T := hid hT
    by_cases hlt : i < 16
    · have d1 : decide ((i : Int) < 16) = true := by simp; omega
      have HD := hid (fun W b m (hJ : JobAt b m s W) => done_any b m s (i : Int) W hJ (wf_nat16 i hlt))
      generalize (dAt s.d (i : Int)).isSome = q at *
      generalize (dAt s.d (i : Int)).getD recZ = r at *
      obtain ⟨r0, r1, r2, r3, r4⟩ := r
      unfold RecS.val at HD
      dsimp only at HD
      have HK := hid (And.intro hik hlt)
      clear hT hik
      go_wp2_with fail
      refine (HD.out _ _ _ (by exact T.out.l)).mono ?_
      rintro e w2 ⟨rfl, hb2⟩
      have hba : Below w2.heap.size w2 (w2.alloc (.cells #[.int .i64 r0, .int .i64 r1, .int .i64 r2, .int .i64 r3, .int .i64 r4] 73)) := (Below.refl _ _).alloc (Nat.le_refl _) _
      have T2 := hid ((T.out.step hb2).step hba)
      have P2 := hid (Blk.new w2 73 #[.int .i64 r0, .int .i64 r1, .int .i64 r2, .int .i64 r3, .int .i64 r4])
      clear hb2 hba
      go_wp2_with fail
      refine (HD.out _ _ _ (by exact T2.out.r)).mono ?_
      rintro e w3 ⟨rfl, hb3⟩
      have hba : Below w3.heap.size w3 (w3.alloc (.cells #[.int .i64 r0, .int .i64 r1, .int .i64 r2, .int .i64 r3, .int .i64 r4] 73)) := (Below.refl _ _).alloc (Nat.le_refl _) _
      have hP := (P2.out.below hb3 P2.out.lt).below hba (by have := P2.out.lt; have := hb3.size; omega)
      have T3 := hid ((T2.out.step hb3).step hba)
      obtain ⟨p0, p1, p2, p3, p4⟩ := blk5 hP
      clear hb3 hba hP
      go_wp2_with fail
      obtain ⟨hik, hlt⟩ := HK.out
      go_roundg (gk - 1)
      case measure => omega
      case rel => exact ⟨i + 1, by omega, by go_num, T3.out⟩
    · obtain rfl : i = 16 := by omega
      have HE := hid (fun W b m (hJ : JobAt b m s W) => end_any b m s W hJ)
      have HS := hid (fun W b m (hJ : JobAt b m s W) => state_any b m s W hJ)
      have HSu := hid (fun W b m (hJ : JobAt b m s W) => jsum_any b m s W hJ)
      have HC := hid (fun W b m (hJ : JobAt b m s W) => chunks_any b m s W hJ)
      have HCo := hid (fun W b m (hJ : JobAt b m s W) => jcode_any b m s W hJ)
      have HMi := hid (fun W b m (hJ : JobAt b m s W) => missing_any b m s W hJ HI.out)
      have hml := missTo_len s s.ch.toNat
      have hch := HI.out.ch1
      have ML := hid (show (missTo s s.ch.toNat).length ≤ 16 by omega)
      unfold MissRes at HMi
      generalize missTo s s.ch.toNat = ml at *
      generalize (s.st == 3) = q3 at *
      generalize hee : s.e = ee at *
      obtain ⟨r0, r1, r2, r3, r4⟩ := ee
      unfold RecS.val at HE
      dsimp only at HE
      clear hee hml hch hT
      go_wp2_with fail
      refine (HE.out _ _ _ (by exact T.out.l)).mono ?_
      rintro e w2 ⟨rfl, hb2⟩
      have hba : Below w2.heap.size w2 (w2.alloc (.cells #[.int .i64 r0, .int .i64 r1, .int .i64 r2, .int .i64 r3, .int .i64 r4] 73)) := (Below.refl _ _).alloc (Nat.le_refl _) _
      have T2 := hid ((T.out.step hb2).step hba)
      have P2 := hid (Blk.new w2 73 #[.int .i64 r0, .int .i64 r1, .int .i64 r2, .int .i64 r3, .int .i64 r4])
      clear hb2 hba
      go_wp2_with fail
      refine (HE.out _ _ _ (by exact T2.out.r)).mono ?_
      rintro e w3 ⟨rfl, hb3⟩
      have hba : Below w3.heap.size w3 (w3.alloc (.cells #[.int .i64 r0, .int .i64 r1, .int .i64 r2, .int .i64 r3, .int .i64 r4] 73)) := (Below.refl _ _).alloc (Nat.le_refl _) _
      have hP := (P2.out.below hb3 P2.out.lt).below hba (by have := P2.out.lt; have := hb3.size; omega)
      have T3 := hid ((T2.out.step hb3).step hba)
      obtain ⟨p0, p1, p2, p3, p4⟩ := blk5 hP
      clear hb3 hba hP
      go_wp2_with fail
      refine (HS.out _ _ _ (by exact T3.out.l)).mono ?_
      rintro e w4 ⟨rfl, rfl⟩
      go_wp2_with fail
      refine (HS.out _ _ _ (by exact T3.out.r)).mono ?_
      rintro e w4 ⟨rfl, rfl⟩
      go_wp2_with fail
      refine (HSu.out _ _ _ (by exact T3.out.l)).mono ?_
      rintro e w4 ⟨rfl, rfl⟩
      go_wp2_with fail
      refine (HSu.out _ _ _ (by exact T3.out.r)).mono ?_
      rintro e w4 ⟨rfl, rfl⟩
      go_wp2_with fail
      refine (HC.out _ _ _ (by exact T3.out.l)).mono ?_
      rintro e w4 ⟨rfl, rfl⟩
      go_wp2_with fail
      refine (HC.out _ _ _ (by exact T3.out.r)).mono ?_
      rintro e w4 ⟨rfl, rfl⟩
      go_wp2_with fail
      refine (HCo.out _ _ _ (by exact T3.out.l)).mono ?_
      rintro e w4 ⟨rfl, rfl⟩
      go_wp2_with fail
      refine (HCo.out _ _ _ (by exact T3.out.r)).mono ?_
      rintro e w4 ⟨rfl, rfl⟩
      go_wp2_with fail
      refine (HMi.out _ _ _ (by exact T3.out.l)).mono ?_
      rintro e w5 ⟨lv, rfl, ho5, hb5⟩
      have T5 := hid (T3.out.step hb5)
      have N5 := hid (nums_of_miss ho5)
      clear ho5 hb5 p0 p1 p2 p3 p4
      go_wp2_with fail
      refine (HMi.out _ _ _ (by exact T5.out.r)).mono ?_
      rintro e w6 ⟨mv, rfl, ho6, hb6⟩
      have T6 := hid (T5.out.step hb6)
      have N6 := hid (And.intro (N5.out.below hb6) (nums_of_miss ho6))
      clear ho6 hb6
      go_wp2_with fail
      refine (ints_same _ _ _ _ (by exact N6.out.1) (by exact N6.out.2) (by have := ML.out; simp; omega)).mono ?_
      rintro e w7 ⟨rfl, hb7⟩
      have T7 := hid (T6.out.step hb7)
      clear hb7
      go_wp2_with fail
      go_ret
      exact ⟨rfl, T7.out.bel⟩
end Go.Proofs.YtabklmkdneoaaaaDoor
/- Chapter 27: first; Replay. -/
namespace Go.Proofs.YtabklmkdneoaaaaDoor
open Go.RowKit

/-- A job of the call's own. -/
structure JW (w : World) (b mb : Nat) (s : JobS) (W : World) : Prop where
  j : JobAt b mb s W
  bel : Below w.heap.size w W
  lo : w.heap.size ≤ b
  lom : w.heap.size ≤ mb
theorem JW.step {w W W' : World} {b mb : Nat} {s : JobS} (h : JW w b mb s W) (hb : Below W.heap.size W W') : JW w b mb s W' := ⟨h.j.below hb, h.bel.trans (hb.mono h.bel.size), h.lo, h.lom⟩
theorem JW.only {w W W' : World} {b mb : Nat} {s s' : JobS} (h : JW w b mb s W) (hj : JobAt b mb s' W') (ho : Only (JF2 b mb) W W') : JW w b mb s' W' :=
  ⟨hj, h.bel.trans ⟨ho.os, ho.tape, ho.output, ho.size, fun k hk => ho.block k (by have := h.bel.size; omega) (by have := h.lo; have := h.lom; unfold JF2; omega)⟩, h.lo, h.lom⟩
theorem nums_lit {W : World} {g n : Nat} {l : List Int} {cs : Array Value} (h : Blk W g 3 cs) (hc : cs = (l.map intV).toArray) (hn : l.length = n) : Nums W (.slice (some ⟨g, 0, none⟩) n n) l := by
  subst hn
  refine ⟨_, _, rfl, Nat.le_refl _, fun _ => ⟨g, 0, rfl, h.lt, fun i v hv => ?_⟩⟩
  rw [Nat.zero_add, h.cell, hc]
  simp [hv, intV]
theorem Nums.only {W W' : World} {x : Value} {l : List Int} {S : Nat → Prop} (h : Nums W x l) (ho : Only S W W') (hx : ∀ k, x.ownBlock = some k → ¬ S k) : Nums W' x l := by
  obtain ⟨A, c, rfl, h2, h3⟩ := h
  refine ⟨A, c, rfl, h2, fun h0 => ?_⟩
  obtain ⟨b, off, rfl, h5, h6⟩ := h3 h0
  exact ⟨b, off, rfl, Nat.lt_of_lt_of_le h5 ho.size, fun j u hu => (World.cell?_of_block (w := W) (a := ⟨b, off + j, none⟩) (ho.block b h5 (hx b rfl))).trans (h6 j u hu)⟩
def j1 : JobS := ⟨1, 9, 2, 0, noD, recZ⟩
def j2 : JobS := ⟨1, 9, 2, 0, noD.set 1 (some ⟨49, 0, 1, 0, 0⟩), recZ⟩
theorem ex_a : applyNo jobZ ⟨49, 0, 0, 0, 0⟩ = 12 ∧ applyJ jobZ ⟨49, 0, 0, 0, 0⟩ = jobZ := ⟨by decide, rfl⟩
theorem ex_b : applyNo jobZ ⟨48, 9, 2, 0, 0⟩ = 0 ∧ applyJ jobZ ⟨48, 9, 2, 0, 0⟩ = j1 := ⟨by decide, rfl⟩
theorem ex_c : applyNo j1 ⟨49, 0, 2, 0, 0⟩ = 3 ∧ applyJ j1 ⟨49, 0, 2, 0, 0⟩ = j1 := ⟨by decide, rfl⟩
theorem ex_d : applyNo j1 ⟨49, 0, 1, 0, 0⟩ = 0 ∧ applyJ j1 ⟨49, 0, 1, 0, 0⟩ = j2 := ⟨by decide, rfl⟩
theorem ex_e : applyNo j2 ⟨51, 0, 0, 0, 0⟩ = 14 ∧ applyJ j2 ⟨51, 0, 0, 0, 0⟩ = j2 := ⟨by decide, rfl⟩
theorem ex_j1 : JI j1 := by have := (JF.zero.apply ⟨48, 9, 2, 0, 0⟩).toJI; rw [ex_b.2] at this; exact this
theorem ex_j2 : JI j2 := by
  have := ((JF.zero.apply ⟨48, 9, 2, 0, 0⟩).apply ⟨49, 0, 1, 0, 0⟩).toJI
  rw [ex_b.2, ex_d.2] at this; exact this
theorem ex_m : missTo j1 (JobS.ch j1).toNat = [0, 1] := by decide
set_option maxRecDepth 100000 in
set_option maxHeartbeats 4000000 in
theorem jfirst_any (w : World) (hg : ErrT w) : Calls Tryd.prog 42 #[] w fun e w' => e = .returned (.bool true) ∧ Below w.heap.size w w' := by
  have HG := hid (And.intro hg hg.lt)
  have A1 := hid (fun W b mb (h : JobAt b mb jobZ W) => apply_any b mb jobZ ⟨49, 0, 0, 0, 0⟩ W h JI.zero)
  have A2 := hid (fun W b mb (h : JobAt b mb jobZ W) => apply_any b mb jobZ ⟨48, 9, 2, 0, 0⟩ W h JI.zero)
  have A3 := hid (fun W b mb (h : JobAt b mb j1 W) => apply_any b mb j1 ⟨49, 0, 2, 0, 0⟩ W h ex_j1)
  have A4 := hid (fun W b mb (h : JobAt b mb j1 W) => apply_any b mb j1 ⟨49, 0, 1, 0, 0⟩ W h ex_j1)
  have A5 := hid (fun W b mb (h : JobAt b mb j2 W) => apply_any b mb j2 ⟨51, 0, 0, 0, 0⟩ W h ex_j2)
  have HMi := hid (fun W b m (hJ : JobAt b m j1 W) => missing_any b m j1 W hJ ex_j1)
  have HS := hid (fun W b m (hJ : JobAt b m j2 W) => state_any b m j2 W hJ)
  have HSu := hid (fun W b m (hJ : JobAt b m j2 W) => jsum_any b m j2 W hJ)
  rw [ex_a.1, ex_a.2] at A1
  rw [ex_b.1, ex_b.2] at A2
  rw [ex_c.1, ex_c.2] at A3
  rw [ex_d.1, ex_d.2] at A4
  rw [ex_e.1, ex_e.2] at A5
  rw [ex_m] at HMi
  rw [show JobS.st j2 = 1 from rfl] at HS
  rw [show JobS.sm j2 = 9 from rfl] at HSu
  unfold RunRes RecS.val at A1 A2 A3 A4 A5
  dsimp only at A1 A2 A3 A4 A5
  rw [show codeV 12 = .iface 29 (.int .i64 12) from rfl] at A1
  rw [show codeV 0 = .nilIface from rfl] at A2 A4
  rw [show codeV 3 = .iface 29 (.int .i64 3) from rfl] at A3
  rw [show codeV 14 = .iface 29 (.int .i64 14) from rfl] at A5
  unfold MissRes at HMi
  generalize j1 = J1 at *
  generalize j2 = J2 at *
  clear hg
  go_enter Tryd.func42, Tryd.ntmps42
  go_wp2_with fail
  refine (jnew_any _).mono ?_
  rintro e w1 ⟨b, mb, rfl, hj, hb, hlo, hlom⟩
  have Q1 := hid (show JW w b mb jobZ w1 from ⟨hj, hb, hlo, hlom⟩)
  clear hj hb hlo hlom
  go_wp2_with fail
  refine (A1.out _ _ _ (by exact Q1.out.j)).mono ?_
  rintro e w2 ⟨rfl, hj, ho⟩
  have Q2 := hid (Q1.out.only hj ho)
  clear hj ho
  go_wp2_with fail
  refine (A2.out _ _ _ (by exact Q2.out.j)).mono ?_
  rintro e w3 ⟨rfl, hj, ho⟩
  have Q3 := hid (Q2.out.only hj ho)
  clear hj ho
  go_wp2_with fail
  refine (HMi.out _ _ _ (by exact Q3.out.j)).mono ?_
  rintro e w4 ⟨lv, rfl, ho, hb⟩
  have Q4 := hid (Q3.out.step hb)
  have N4 := hid (And.intro (show Nums w4 lv [0, 1] from nums_of_miss ho) (show ∀ k, lv.ownBlock = some k → ¬ JF2 b mb k from fun k hk => by
    have h1 := (ho.lt k hk).1
    have h2 := Q3.out.j.blk.lt
    have h3 := Q3.out.j.map.lt
    unfold JF2
    omega))
  obtain ⟨A4', c4', rfl⟩ := own_slice ho
  clear ho hb
  go_wp2_with fail
  refine (A3.out _ _ _ (by exact Q4.out.j)).mono ?_
  rintro e w5 ⟨rfl, hj, ho⟩
  have Q5 := hid (Q4.out.only hj ho)
  have N5 := hid (N4.out.1.only ho N4.out.2)
  clear hj ho
  go_wp2_with fail
  refine (A4.out _ _ _ (by exact Q5.out.j)).mono ?_
  rintro e w6 ⟨rfl, hj, ho⟩
  have Q6 := hid (Q5.out.only hj ho)
  have N6 := hid (N5.out.only ho N4.out.2)
  clear hj ho
  go_wp2_with fail
  refine (A5.out _ _ _ (by exact Q6.out.j)).mono ?_
  rintro e w7 ⟨rfl, hj, ho⟩
  have Q7 := hid (Q6.out.only hj ho)
  have N7 := hid (N6.out.only ho N4.out.2)
  clear hj ho
  go_wp2_with fail
  refine (fail_any 12 _).mono ?_
  rintro e w8 ⟨rfl, hb⟩
  have Q8 := hid (Q7.out.step hb)
  have N8 := hid (N7.out.below hb)
  clear hb
  go_wp2_with fail
  refine (err_same 12 _ (by exact HG.out.1.below Q8.out.bel HG.out.2)).mono ?_
  rintro e w9 ⟨rfl, hb⟩
  have hba : Below w9.heap.size w9 (w9.alloc (.cells #[.int .i64 0, .int .i64 1] 3)) := (Below.refl _ _).alloc (Nat.le_refl _) _
  have Q9 := hid ((Q8.out.step hb).step hba)
  have N9 := hid (And.intro ((N8.out.below hb).below hba) (nums_lit (l := [0, 1]) (Blk.new w9 3 #[.int .i64 0, .int .i64 1]) rfl rfl))
  clear hb hba
  go_wp2_with fail
  refine (ints_same _ _ [0, 1] _ (by exact N9.out.1) (by exact N9.out.2) (by decide)).mono ?_
  rintro e w10 ⟨rfl, hb⟩
  have Q10 := hid (Q9.out.step hb)
  clear hb
  go_wp2_with fail
  refine (fail_any 3 _).mono ?_
  rintro e w11 ⟨rfl, hb⟩
  have Q11 := hid (Q10.out.step hb)
  clear hb
  go_wp2_with fail
  refine (err_same 3 _ (by exact HG.out.1.below Q11.out.bel HG.out.2)).mono ?_
  rintro e w12 ⟨rfl, hb⟩
  have Q12 := hid (Q11.out.step hb)
  clear hb
  go_wp2_with fail
  refine (fail_any 14 _).mono ?_
  rintro e w13 ⟨rfl, hb⟩
  have Q13 := hid (Q12.out.step hb)
  clear hb
  go_wp2_with fail
  refine (err_same 14 _ (by exact HG.out.1.below Q13.out.bel HG.out.2)).mono ?_
  rintro e w14 ⟨rfl, hb⟩
  have Q14 := hid (Q13.out.step hb)
  clear hb
  go_wp2_with fail
  refine (HS.out _ _ _ (by exact Q14.out.j)).mono ?_
  rintro e w15 ⟨rfl, rfl⟩
  go_wp2_with fail
  refine (HSu.out _ _ _ (by exact Q14.out.j)).mono ?_
  rintro e w15 ⟨rfl, rfl⟩
  go_wp2_with fail
  go_ret
  exact ⟨rfl, Q14.out.bel⟩
/-! ### Replay -/
def replTo : List RecS → JobS → JobS
  | [], s => s
  | r :: l, s => replTo l (applyJ s r)
theorem repl_snoc (l : List RecS) (r : RecS) (s : JobS) : replTo (l ++ [r]) s = applyJ (replTo l s) r := by
  induction l generalizing s with
  | nil => rfl
  | cons a l ih => exact ih _
/-- How many are taken: the first i are. -/
def TakenTo (l : List RecS) (i : Nat) : Prop := ∀ k, k < i → ∀ r, l[k]? = some r → applyNo (replTo (l.take k) jobZ) r = 0
theorem JF.repl (l : List RecS) : JF (replTo l jobZ) := by
  have : ∀ (l : List RecS) (s : JobS), JF s → JF (replTo l s) := by
    intro l
    induction l with
    | nil => intro s h; exact h
    | cons r l ih => intro s h; exact ih _ (h.apply r)
  exact this l _ JF.zero
/-- What Replay answers: the job of the first n records, which are taken; behind them none, or one that is refused. -/
def ReplRes (l : List RecS) (w : World) (e : Ending) (w' : World) : Prop :=
  ∃ b mb n, e = .returned (.tuple #[.pointer (some ⟨b, 0, none⟩), .int .i64 (n : Nat)]) ∧ JW w b mb (replTo (l.take n) jobZ) w' ∧ n ≤ l.length ∧ TakenTo l n ∧ ∀ r, l[n]? = some r → applyNo (replTo (l.take n) jobZ) r ≠ 0
set_option maxRecDepth 100000 in
set_option maxHeartbeats 4000000 in
theorem replay_any (x : Value) (l : List RecS) (w : World) (hx : RdR w x l) (hl : l.length ≤ 1000000) : Calls Tryd.prog 44 #[x] w (ReplRes l w) := by
  obtain ⟨A, c, rfl, hc⟩ := hx.form
  have X := hid (And.intro hx hl)
  clear hx hl hc
  go_enter Tryd.func44, Tryd.ntmps44
  go_wp2_with fail
  refine (jnew_any _).mono ?_
  rintro e w1 ⟨b, mb, rfl, hj, hb, hlo, hlom⟩
  have Q1 := hid (show JW w b mb jobZ w1 from ⟨hj, hb, hlo, hlom⟩)
  clear hj hb hlo hlom
  go_wp2_with fail
  go_loopg [10] l.length (fun k iv wr => ∃ i : Nat, i + k = l.length ∧ iv = .int .i64 i ∧ JW w b mb (replTo (l.take i) jobZ) wr ∧ TakenTo l i)
  case atStart => exact ⟨0, by omega, rfl, Q1.out, fun k hk => by omega⟩
  case round =>
    obtain ⟨i, hi, rfl, hQ, hT⟩ := hrel
    have hl := X.out.2
    by_cases hlt : i < l.length
    · obtain ⟨r, hr⟩ : ∃ r, l[i]? = some r := ⟨l[i], List.getElem?_eq_getElem hlt⟩
      have hsn : replTo (l.take (i + 1)) jobZ = applyJ (replTo (l.take i) jobZ) r := by
        rw [List.take_add_one, hr]
        exact repl_snoc _ _ _
      have hJF := JF.repl (l.take i)
      obtain ⟨b1, o1, rfl, _, p0, p1, p2, p3, p4⟩ := (X.out.1.below hQ.bel).at_ hr
      have k0 : (0 : Int) ≤ (i : Int) := by omega
      have k1 : (i : Int) < (l.length : Int) := by omega
      have Q := hid hQ
      have HT := hid (And.intro hT (And.intro hi (And.intro hlt (And.intro hr hsn))))
      have HA := hid (fun W (h : JobAt b mb (replTo (l.take i) jobZ) W) => apply_any b mb _ r W h hJF.toJI)
      have hno : applyNo (replTo (l.take i) jobZ) r = 0 ∨ applyNo (replTo (l.take i) jobZ) r ≠ 0 := by omega
      have href := apply_refused (s := replTo (l.take i) jobZ) (r := r)
      have HN := hid (And.intro hno href)
      clear hQ hT hi hlt hr hsn hJF hno href
      obtain ⟨rk, r1, r2, r3, r4⟩ := r
      have hba : Below wr.heap.size wr (wr.alloc (.cells #[.int .i64 rk, .int .i64 r1, .int .i64 r2, .int .i64 r3, .int .i64 r4] 73)) := (Below.refl _ _).alloc (Nat.le_refl _) _
      have Q2 := hid (Q.out.step hba)
      dsimp only at p0 p1 p2 p3 p4
      unfold RunRes RecS.val at HA
      dsimp only at HA
      clear hba
      generalize hS : replTo (l.take i) jobZ = S at *
      generalize hAN : applyNo S ⟨rk, r1, r2, r3, r4⟩ = an at *
      generalize hAJ : applyJ S ⟨rk, r1, r2, r3, r4⟩ = aj at *
      have HH := hid (And.intro hS (And.intro hAN hAJ))
      clear hS hAN hAJ
      rcases HN.out.1 with h0 | h0
      · subst h0
        rw [show codeV 0 = .nilIface from rfl] at HA
        go_wp2_with fail
        refine (HA.out _ (by exact Q2.out.j)).mono ?_
        rintro e w3 ⟨rfl, hj, ho⟩
        have Q3 := hid (Q2.out.only hj ho)
        clear hj ho p0 p1 p2 p3 p4
        go_wp2_with fail
        obtain ⟨hT, hi, hlt, hr, hsn⟩ := HT.out
        go_roundg (gk - 1)
        case measure => omega
        case rel =>
          refine ⟨i + 1, by omega, by go_num, by rw [hsn]; exact Q3.out, ?_⟩
          intro k hk r' hr'
          by_cases hki : k = i
          · subst hki
            rw [hr] at hr'
            injection hr' with hr'
            subst hr'
            rw [HH.out.1]
            exact HH.out.2.1
          · exact hT k (by omega) r' hr'
      · have hcv : codeV an = .iface 29 (.int .i64 an) := by unfold codeV; rw [if_neg h0]
        rw [hcv] at HA
        have H0 := hid h0
        clear h0 hcv
        go_wp2_with fail
        refine (HA.out _ (by exact Q2.out.j)).mono ?_
        rintro e w3 ⟨rfl, hj, ho⟩
        have Q3 := hid (Q2.out.only hj ho)
        clear hj ho p0 p1 p2 p3 p4
        go_wp2_with fail
        go_ret2
        obtain ⟨hT, hi, hlt, hr, hsn⟩ := HT.out
        refine ⟨b, mb, i, rfl, ?_, by omega, hT, fun r' hr' => ?_⟩
        · rw [HH.out.1]
          have h2 := HN.out.2 H0.out
          have h3 := Q3.out
          rw [h2] at h3
          exact h3
        · rw [hr] at hr'
          injection hr' with hr'
          subst hr'
          rw [HH.out.1, HH.out.2.1]
          exact H0.out
    · obtain rfl : i = l.length := by omega
      have d1 : decide ((l.length : Int) < (l.length : Int)) = false := by simp
      have Q := hid (And.intro hQ hT)
      clear hQ hT
      go_wp2_with fail
      go_ret2
      exact ⟨b, mb, l.length, rfl, Q.out.1, Nat.le_refl _, Q.out.2, fun r hr => by rw [List.getElem?_eq_none (Nat.le_refl _)] at hr; cases hr⟩
end Go.Proofs.YtabklmkdneoaaaaDoor
