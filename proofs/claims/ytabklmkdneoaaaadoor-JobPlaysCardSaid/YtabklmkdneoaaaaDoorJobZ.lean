/- Chapter 27: the document's job: Apply, Forget, Replay. -/
import Derived.Test.YtabklmkdneoaaaaDoorJobV
/- Chapter 27: the document's job: running whole, Apply. -/
namespace Go.Proofs.YtabklmkdneoaaaaDoor
open Go.RowKit

theorem rrun_any (b : Nat) (s : JobS) (r : RecS) (w : World) (h : XJ b s w) (hi : JI s) (hm : mayR r = true) (h48 : r.kind ≠ 48) : Calls Tryd.prog 89 #[.pointer (some ⟨b, 0, none⟩), r.val] w (RRunRes b (runNo s r) (runJ s r) w) := by
  obtain ⟨hks, h0, _, _⟩ := may_bounds hm
  obtain ⟨n, hn⟩ := Int.eq_ofNat_of_zero_le h0
  have hch := hi.ch1
  have hch0 := hi.ch0
  have hcc := hi.cnt.1
  by_cases hk : r.kind = 49
  · by_cases hc : s.ch ≤ r.num
    · have e1 : runNo s r = 3 := by unfold runNo; rw [if_pos hk, if_pos hc]
      have e2 : runJ s r = s := by unfold runJ; rw [e1, if_pos (by decide)]
      rw [e1, e2]
      exact rrun_done_bad b s r w h hk hc
    · have e1 : runNo s r = 0 := by unfold runNo; rw [if_pos hk, if_neg hc]
      have e2 : runJ s r = { s with d := s.d.set n (some r) } := by unfold runJ; rw [e1, if_neg (by decide), if_pos hk, hn]; rfl
      rw [e1, e2]
      exact rrun_done b s r n w h hi.len hk hn (by omega) hch
  · by_cases hk2 : r.kind = 50
    · by_cases hc : 0 < s.ch
      · have e1 : runNo s r = 14 := by unfold runNo; rw [if_neg hk, if_pos hk2, if_pos hc]
        have e2 : runJ s r = s := by unfold runJ; rw [e1, if_pos (by decide)]
        rw [e1, e2]
        exact rrun_fail_bad b s r w h hk2 hc
      · have e1 : runNo s r = 0 := by unfold runNo; rw [if_neg hk, if_pos hk2, if_neg hc]
        have e2 : runJ s r = { s with st := 2, cd := r.code } := by unfold runJ; rw [e1, if_neg (by decide), if_neg hk, if_pos hk2]
        rw [e1, e2]
        exact rrun_fail b s r w h hk2 (by omega)
    · have hk3 : r.kind = 51 := by omega
      by_cases hc : s.ch = 0 ∨ (cntD s.d : Int) < s.ch
      · have e1 : runNo s r = 14 := by unfold runNo; rw [if_neg hk, if_neg hk2, if_pos hc]
        have e2 : runJ s r = s := by unfold runJ; rw [e1, if_pos (by decide)]
        rw [e1, e2]
        exact rrun_end_bad b s r w h hi hk3 hc
      · have e1 : runNo s r = 0 := by unfold runNo; rw [if_neg hk, if_neg hk2, if_neg hc]
        have e2 : runJ s r = { s with st := 3, e := r } := by unfold runJ; rw [e1, if_neg (by decide), if_neg hk, if_neg hk2]
        rw [e1, e2]
        exact rrun_end b s r w h hi hk3 (by omega)
set_option maxRecDepth 100000 in
set_option maxHeartbeats 1000000 in
theorem rrun_start (b : Nat) (s : JobS) (r : RecS) (w : World) (h : XJ b s w) (hk : r.kind = 48) : Calls Tryd.prog 89 #[.pointer (some ⟨b, 0, none⟩), r.val] w (RRunRes b 12 s w) := by
  have R := hid (RX.new (r := r) h)
  obtain ⟨c0, c1, c2, c3⟩ := R.out.j.cells
  obtain ⟨k, r1, r2, r3, r4⟩ := r
  have hk' : k = 48 := hk
  subst hk'
  obtain ⟨p0, p1, p2, p3, p4⟩ := R.out.cells
  unfold RecS.val
  dsimp only at *
  clear h hk
  go_enter Tryd.func89, Tryd.ntmps89
  go_wp2_with fail
  go_ret
  exact ⟨rfl, R.out.j, R.out.only⟩
/-- What the document's Apply holds: the record, the answer, the job. -/
structure RA (w : World) (r : RecS) (b : Nat) (s : JobS) (W : World) : Prop extends RX w r b s W where
  e : Blk W (w.heap.size + 1) 32 #[.int .i64 0, .slice none 0 0]
theorem RA.new {w : World} {r : RecS} {b : Nat} {s : JobS} (h : XJ b s w) : RA w r b s ((w.alloc (.cells #[.int .i64 r.kind, .int .i64 r.sum, .int .i64 r.num, .int .i64 r.len, .int .i64 r.code] 71)).alloc (.cells #[.int .i64 0, .slice none 0 0] 32)) :=
  ⟨(RX.new h).step ((Below.refl _ _).alloc (Nat.le_refl _) _), blk_new_at (by simp) _ _⟩
theorem RA.step {w W W' : World} {r : RecS} {b : Nat} {s : JobS} (h : RA w r b s W) (hb : Below W.heap.size W W') : RA w r b s W' :=
  ⟨h.toRX.step hb, h.e.below hb h.e.lt⟩
theorem RA.run {w W W' : World} {r : RecS} {b : Nat} {s s' : JobS} (h : RA w r b s W) (hj : XJ b s' W') (ho : Only (fun k => k = b) W W') : RA w r b s' W' :=
  ⟨⟨h.r.keep ho (by have := h.lt; omega), hj, h.lt, h.only.trans ho⟩, h.e.keep ho (by have := h.lt; omega)⟩
theorem RA.ecells {w W : World} {r : RecS} {b : Nat} {s : JobS} (h : RA w r b s W) : W.cell? ⟨w.heap.size + 1, 0, none⟩ = some (.int .i64 0) ∧ W.cell? ⟨w.heap.size + 1, 1, none⟩ = some (.slice none 0 0) ∧ W.frozen? ⟨w.heap.size + 1, 0, none⟩ = false ∧ W.frozen? ⟨w.heap.size + 1, 1, none⟩ = false := by
  refine ⟨?_, ?_, h.e.frozen 0, h.e.frozen 1⟩ <;> (rw [h.e.cell]; rfl)
theorem RA.lay {w W : World} {r : RecS} {b : Nat} {s : JobS} (h : RA w r b s W) (a0 a1 : Value) : XJ b s ((W.setCell ⟨w.heap.size + 1, 0, none⟩ a0).setCell ⟨w.heap.size + 1, 1, none⟩ a1) ∧ Only (fun k => k = b) w ((W.setCell ⟨w.heap.size + 1, 0, none⟩ a0).setCell ⟨w.heap.size + 1, 1, none⟩ a1) ∧ ((W.setCell ⟨w.heap.size + 1, 0, none⟩ a0).setCell ⟨w.heap.size + 1, 1, none⟩ a1).cell? ⟨w.heap.size + 1, 0, none⟩ = some a0 ∧ ((W.setCell ⟨w.heap.size + 1, 0, none⟩ a0).setCell ⟨w.heap.size + 1, 1, none⟩ a1).cell? ⟨w.heap.size + 1, 1, none⟩ = some a1 := by
  have hlt := h.lt
  have hO : Only (fun k => k = w.heap.size + 1) W ((W.setCell ⟨w.heap.size + 1, 0, none⟩ a0).setCell ⟨w.heap.size + 1, 1, none⟩ a1) := ((Only.refl (fun k => k = w.heap.size + 1) W).put (b := w.heap.size + 1) rfl 0 _).put (b := w.heap.size + 1) rfl 1 _
  have he := (h.e.put 0 a0).put 1 a1
  have hB : Below w.heap.size W ((W.setCell ⟨w.heap.size + 1, 0, none⟩ a0).setCell ⟨w.heap.size + 1, 1, none⟩ a1) := ⟨hO.os, hO.tape, hO.output, hO.size, fun k hk => hO.block k (by have := h.only.size; omega) (by omega)⟩
  refine ⟨h.j.keep hO (by omega), ⟨hB.os.trans h.only.os, hB.tape.trans h.only.tape, hB.output.trans h.only.output, Nat.le_trans h.only.size hB.size, fun k hk hn => (hB.block k hk).trans (h.only.block k hk hn)⟩, ?_, ?_⟩ <;> (rw [he.cell]; rfl)
def RAppRes (b : Nat) (c : Int) (s' : JobS) (w : World) (e : Ending) (w' : World) : Prop := e = .returned (.agg #[.int .i64 c, .slice none 0 0]) ∧ XJ b s' w' ∧ Only (fun k => k = b) w w'
set_option maxRecDepth 100000 in
set_option maxHeartbeats 1000000 in
theorem rapply_any (b : Nat) (s : JobS) (r : RecS) (w : World) (h : XJ b s w) (hi : JI s) : Calls Tryd.prog 54 #[.pointer (some ⟨b, 0, none⟩), r.val] w (RAppRes b (applyNo s r) (applyJ s r) w) := by
  have R := hid (RA.new (r := r) h)
  have HM := hid (fun W => rmay_any r W)
  by_cases hm : mayR r = false
  · have e1 : applyNo s r = 2 := by unfold applyNo; rw [if_pos hm]
    have e2 : applyJ s r = s := by unfold applyJ; rw [if_pos hm]
    rw [e1, e2]
    rw [hm] at HM
    obtain ⟨k, r1, r2, r3, r4⟩ := r
    unfold RecS.val at *
    dsimp only at *
    clear h hi hm e1 e2
    go_enter Tryd.func54, Tryd.ntmps54
    go_wp2_with fail
    refine (HM.out _).mono ?_
    rintro e w2 ⟨rfl, h2⟩
    have R2 := hid (R.out.step h2)
    clear h2
    go_wp2_with fail
    refine (fail_any 2 _).mono ?_
    rintro e w3 ⟨rfl, h3⟩
    have R3 := hid (R2.out.step h3)
    clear h3
    obtain ⟨c0, c1, f0, f1⟩ := R3.out.ecells
    go_wp2_with fail
    obtain ⟨h0, h1, h2, h3⟩ := R3.out.lay (.int .i64 2) (.slice none 0 0)
    exact bodyPost_ret (v := .agg #[.int .i64 2, .slice none 0 0]) (by simp [results, Tryd.results54, go_sem, h2, h3]) rfl ⟨rfl, h0, h1⟩
  · have hm' : mayR r = true := by simpa using hm
    rw [hm'] at HM
    by_cases hs1 : s.st = 1
    · have HR : ∃ rn rj, applyNo s r = rn ∧ applyJ s r = rj ∧ ∀ W, XJ b s W → Calls Tryd.prog 89 #[.pointer (some ⟨b, 0, none⟩), r.val] W (RRunRes b rn rj W) := by
        have h0 : ¬ (s.st = 0 ∧ r.kind = 48) := by omega
        by_cases hk : r.kind = 48
        · exact ⟨12, s, by unfold applyNo; rw [if_neg hm, if_neg h0, if_pos (.inr hk)], by unfold applyJ; rw [if_neg hm, if_neg h0, if_pos (.inr hk)], fun W hW => rrun_start b s r W hW hk⟩
        · have h1 : ¬ (s.st ≠ 1 ∨ r.kind = 48) := by omega
          exact ⟨runNo s r, runJ s r, by unfold applyNo; rw [if_neg hm, if_neg h0, if_neg h1], by unfold applyJ; rw [if_neg hm, if_neg h0, if_neg h1], fun W hW => rrun_any b s r W hW hi hm' hk⟩
      obtain ⟨rn, rj, e1, e2, hr⟩ := HR
      rw [e1, e2]
      have HR := hid hr
      have d1 : (s.st == 0) = false := by simp; omega
      have d2 : (s.st != 1) = false := by simp; omega
      obtain ⟨k, r1, r2, r3, r4⟩ := r
      unfold RecS.val at *
      dsimp only at *
      clear h hi hm hm' e1 e2 hr hs1
      go_enter Tryd.func54, Tryd.ntmps54
      go_wp2_with fail
      refine (HM.out _).mono ?_
      rintro e w2 ⟨rfl, h2⟩
      have R2 := hid (R.out.step h2)
      clear h2
      obtain ⟨c0, c1, c2, c3⟩ := R2.out.j.cells
      obtain ⟨p0, p1, p2, p3, p4⟩ := R2.out.cells
      dsimp only at p0 p1 p2 p3 p4
      go_wp2_with fail
      refine (HR.out _ (by exact R2.out.j)).mono ?_
      rintro e w3 ⟨rfl, hj, ho⟩
      have R3 := hid (R2.out.run hj ho)
      clear hj ho
      go_wp2_with fail
      refine (fail_any rn _).mono ?_
      rintro e w4 ⟨rfl, h4⟩
      have R4 := hid (R3.out.step h4)
      clear h4 c0 c1 c2 c3 p0 p1 p2 p3 p4
      obtain ⟨c0, c1, f0, f1⟩ := R4.out.ecells
      go_wp2_with fail
      obtain ⟨h0, h1, h2, h3⟩ := R4.out.lay (.int .i64 rn) (.slice none 0 0)
      exact bodyPost_ret (v := .agg #[.int .i64 rn, .slice none 0 0]) (by simp [results, Tryd.results54, go_sem, h2, h3]) rfl ⟨rfl, h0, h1⟩
    · by_cases h0 : s.st = 0 ∧ r.kind = 48
      · have e1 : applyNo s r = 0 := by unfold applyNo; rw [if_neg hm, if_pos h0]
        have e2 : applyJ s r = { s with st := 1, sm := r.sum, ch := r.num } := by unfold applyJ; rw [if_neg hm, if_pos h0]
        rw [e1, e2]
        have d1 : (s.st == 0) = true := by simp [h0.1]
        have d2 : (r.kind == 48) = true := by simp [h0.2]
        obtain ⟨k, r1, r2, r3, r4⟩ := r
        unfold RecS.val at *
        dsimp only at *
        clear h hi hm hm' e1 e2 hs1 h0
        go_enter Tryd.func54, Tryd.ntmps54
        go_wp2_with fail
        refine (HM.out _).mono ?_
        rintro e w2 ⟨rfl, h2⟩
        have R2 := hid (R.out.step h2)
        clear h2
        obtain ⟨c0, c1, c2, c3⟩ := R2.out.j.cells
        obtain ⟨p0, p1, p2, p3, p4⟩ := R2.out.cells
        dsimp only at p0 p1 p2 p3 p4
        have f0 := R2.out.j.frozen 0
        have f1 := R2.out.j.frozen 1
        have f2 := R2.out.j.frozen 2
        have hne : ¬ b = w.heap.size := by have := R2.out.lt; omega
        have hne2 : ¬ w.heap.size = b := by omega
        go_wp2_with fail
        have K0 := hid (blk5 R2.out.r.drew)
        have K1 := hid (blk5 (R2.out.r.far (p := ⟨b, 0, none⟩) hne2 (.int .i64 1)).drew)
        have K2 := hid (blk5 ((R2.out.r.far (p := ⟨b, 0, none⟩) hne2 (.int .i64 1)).far (p := ⟨b, 1, none⟩) hne2 (.int .i64 r1)).drew)
        have K3 := hid (blk5 (((R2.out.r.far (p := ⟨b, 0, none⟩) hne2 (.int .i64 1)).far (p := ⟨b, 1, none⟩) hne2 (.int .i64 r1)).far (p := ⟨b, 2, none⟩) hne2 (.int .i64 r2)).drew)
        go_region_held3 (fun W => W.cell? ⟨w.heap.size, 0, none⟩ = some (.int .i64 k) ∧ W.cell? ⟨w.heap.size, 1, none⟩ = some (.int .i64 r1) ∧ W.cell? ⟨w.heap.size, 2, none⟩ = some (.int .i64 r2) ∧ W.cell? ⟨w.heap.size, 3, none⟩ = some (.int .i64 r3) ∧ W.cell? ⟨w.heap.size, 4, none⟩ = some (.int .i64 r4))
          (first | with_reducible exact K0.out | with_reducible exact K1.out | with_reducible exact K2.out | with_reducible exact K3.out) (fail)
        all_goals
          obtain ⟨cs, hB0, hX⟩ := R2.out.j
          have R3 := hid (R2.out.run (s' := { s with st := 1, sm := r1, ch := r2 }) (show XJ b _ _ from ⟨_, (((hB0.put 0 (.int .i64 1)).put 1 (.int .i64 r1)).put 2 (.int .i64 r2)).drew, hX.head rfl (by simp [hX.size])
            (by
              rw [Array.getElem?_setIfInBounds_ne (by omega), Array.getElem?_setIfInBounds_ne (by omega)]
              exact Array.getElem?_setIfInBounds_self_of_lt (by simp [hX.size]))
            (by
              rw [Array.getElem?_setIfInBounds_ne (by omega)]
              exact Array.getElem?_setIfInBounds_self_of_lt (by simp [hX.size]))
            (Array.getElem?_setIfInBounds_self_of_lt (by simp [hX.size]))
            (by
              rw [Array.getElem?_setIfInBounds_ne (by omega), Array.getElem?_setIfInBounds_ne (by omega), Array.getElem?_setIfInBounds_ne (by omega)]
              exact hX.c3)
            (by
              rw [Array.getElem?_setIfInBounds_ne (by omega), Array.getElem?_setIfInBounds_ne (by omega), Array.getElem?_setIfInBounds_ne (by omega)]
              exact hX.e0)
            (by
              rw [Array.getElem?_setIfInBounds_ne (by omega), Array.getElem?_setIfInBounds_ne (by omega), Array.getElem?_setIfInBounds_ne (by omega)]
              exact hX.e1)
            (by
              rw [Array.getElem?_setIfInBounds_ne (by omega), Array.getElem?_setIfInBounds_ne (by omega), Array.getElem?_setIfInBounds_ne (by omega)]
              exact hX.e2)
            (by
              rw [Array.getElem?_setIfInBounds_ne (by omega), Array.getElem?_setIfInBounds_ne (by omega), Array.getElem?_setIfInBounds_ne (by omega)]
              exact hX.e3)
            (by
              rw [Array.getElem?_setIfInBounds_ne (by omega), Array.getElem?_setIfInBounds_ne (by omega), Array.getElem?_setIfInBounds_ne (by omega)]
              exact hX.e4)
            (fun i h1 h2 => by rw [Array.getElem?_setIfInBounds_ne (by omega), Array.getElem?_setIfInBounds_ne (by omega), Array.getElem?_setIfInBounds_ne (by omega)])⟩)
            ((((Only.refl (fun k => k = b) _).put (b := b) rfl 0 _).put (b := b) rfl 1 _).put (b := b) rfl 2 _).drew)
          clear hB0 hX K0 K1 K2 K3 c0 c1 c2 c3 p0 p1 p2 p3 p4 f0 f1 f2
          generalize (((w2.setCell ⟨b, 0, none⟩ (.int .i64 1)).setCell ⟨b, 1, none⟩ (.int .i64 r1)).setCell ⟨b, 2, none⟩ (.int .i64 r2)).drew = W3 at *
          obtain ⟨c0, c1, g0, g1⟩ := R3.out.ecells
          go_wp2_with fail
          obtain ⟨h0, h1, h2, h3⟩ := R3.out.lay (.int .i64 0) (.slice none 0 0)
          exact bodyPost_ret (v := .agg #[.int .i64 0, .slice none 0 0]) (by simp [results, Tryd.results54, go_sem, h2, h3]) rfl ⟨rfl, h0, h1⟩
      · have e1 : applyNo s r = 12 := by unfold applyNo; rw [if_neg hm, if_neg h0, if_pos (.inl hs1)]
        have e2 : applyJ s r = s := by unfold applyJ; rw [if_neg hm, if_neg h0, if_pos (.inl hs1)]
        rw [e1, e2]
        have hcase : ((s.st == 0) = false ∧ (s.st != 1) = true) ∨ ((s.st == 0) = true ∧ (s.st != 1) = true ∧ (r.kind == 48) = false) := by
          simp only [beq_iff_eq, beq_eq_false_iff_ne, bne_iff_ne]
          omega
        obtain ⟨k, r1, r2, r3, r4⟩ := r
        unfold RecS.val at *
        dsimp only at *
        clear h hi hm hm' e1 e2 hs1 h0
        rcases hcase with ⟨d1, d2⟩ | ⟨d1, d2, d3⟩
        all_goals
          go_enter Tryd.func54, Tryd.ntmps54
          go_wp2_with fail
          refine (HM.out _).mono ?_
          rintro e w2 ⟨rfl, h2⟩
          have R2 := hid (R.out.step h2)
          clear h2
          obtain ⟨c0, c1, c2, c3⟩ := R2.out.j.cells
          obtain ⟨p0, p1, p2, p3, p4⟩ := R2.out.cells
          dsimp only at p0 p1 p2 p3 p4
          go_wp2_with fail
          refine (fail_any 12 _).mono ?_
          rintro e w3 ⟨rfl, h3⟩
          have R3 := hid (R2.out.step h3)
          clear h3 c0 c1 c2 c3
          obtain ⟨c0, c1, f0, f1⟩ := R3.out.ecells
          go_wp2_with fail
          obtain ⟨h0, h1, h2, h3⟩ := R3.out.lay (.int .i64 12) (.slice none 0 0)
          exact bodyPost_ret (v := .agg #[.int .i64 12, .slice none 0 0]) (by simp [results, Tryd.results54, go_sem, h2, h3]) rfl ⟨rfl, h0, h1⟩
end Go.Proofs.YtabklmkdneoaaaaDoor
/- Chapter 27: the document's job: Forget. -/
namespace Go.Proofs.YtabklmkdneoaaaaDoor
open Go.RowKit

set_option maxRecDepth 100000 in
set_option maxHeartbeats 1000000 in
theorem rforget_yes (b : Nat) (s : JobS) (n : Nat) (w : World) (h : XJ b s w) (hi : JI s) (hst : s.st = 1) (hn : n < 16) (hh : (dAt s.d (n : Int)).isSome = true) : Calls Tryd.prog 56 #[.pointer (some ⟨b, 0, none⟩), .int .i64 n] w fun e w' => e = .returned (.tuple #[]) ∧ XJ b { s with d := s.d.set n none } w' ∧ Only (fun k => k = b) w w' := by
  have R := hid h
  have HH := hid (fun W (h : XJ b s W) => has_any b s (n : Int) W h hi)
  rw [hh] at HH
  obtain ⟨c0, c1, c2, c3⟩ := h.cells
  have d1 : (s.st == 1) = true := by simp [hst]
  have HN := hid (And.intro hn hi.len)
  have k0 : (0 : Int) ≤ (n : Int) := by omega
  have k1 : (n : Int) < 16 := by omega
  have his := h.is hn
  obtain ⟨e0, e1, e2, e3, e4⟩ := h.recs hn
  have f0 := h.frozen (4 + n)
  have g0 := h.frozen (20 + n * 5)
  have g1 := h.frozen (20 + n * 5 + 1)
  have g2 := h.frozen (20 + n * 5 + 2)
  have g3 := h.frozen (20 + n * 5 + 3)
  have g4 := h.frozen (20 + n * 5 + 4)
  clear h hi hst hn hh
  go_enter Tryd.func56, Tryd.ntmps56
  go_wp2_with fail
  refine (HH.out _ (by exact R.out)).mono ?_
  rintro e w2 ⟨rfl, rfl⟩
  go_wp2_with fail
  go_region_held3 (fun _ => True) (exact trivial) (fail)
  all_goals
    go_wp2_with fail
    obtain ⟨cs, hB0, hX⟩ := R.out
    obtain ⟨hn16, hd⟩ := HN.out
    refine bodyPost_end (v := .tuple #[]) (by simp [results, Tryd.results56, go_sem]) rfl ?_
    refine ⟨rfl, ⟨_, ((((((hB0.put (4 + n) (.bool false)).put (20 + n * 5) (.int .i64 0)).put (20 + n * 5 + 1) (.int .i64 0)).put (20 + n * 5 + 2) (.int .i64 0)).put (20 + n * 5 + 3) (.int .i64 0)).put (20 + n * 5 + 4) (.int .i64 0)).drew, ?_⟩, (((((((Only.refl (fun k => k = b) _).put (b := b) rfl (4 + n) _).put (b := b) rfl (20 + n * 5) _).put (b := b) rfl (20 + n * 5 + 1) _).put (b := b) rfl (20 + n * 5 + 2) _).put (b := b) rfl (20 + n * 5 + 3) _).put (b := b) rfl (20 + n * 5 + 4) _).drew⟩
    refine hX.turn hd n hn16 _ (by simp [hX.size]) ?_ ?_ ?_ ?_ ?_ ?_ ?_
    all_goals
      first
        | (intro i h1 h2
           rw [Array.getElem?_setIfInBounds_ne (by omega), Array.getElem?_setIfInBounds_ne (by omega), Array.getElem?_setIfInBounds_ne (by omega), Array.getElem?_setIfInBounds_ne (by omega), Array.getElem?_setIfInBounds_ne (by omega), Array.getElem?_setIfInBounds_ne (by omega)])
        | (repeat rw [Array.getElem?_setIfInBounds_ne (by omega)]
           exact Array.getElem?_setIfInBounds_self_of_lt (by simp [hX.size]; omega))
set_option maxRecDepth 100000 in
set_option maxHeartbeats 1000000 in
theorem rforget_no (b : Nat) (s : JobS) (n : Int) (w : World) (h : XJ b s w) (hi : JI s) (hh : (s.st == 1) = false ∨ ((s.st == 1) = true ∧ (dAt s.d n).isSome = false)) : Calls Tryd.prog 56 #[.pointer (some ⟨b, 0, none⟩), .int .i64 n] w fun e w' => e = .returned (.tuple #[]) ∧ w' = w := by
  have R := hid h
  obtain ⟨c0, c1, c2, c3⟩ := h.cells
  rcases hh with d1 | ⟨d1, hh⟩
  · clear h hi
    go_enter Tryd.func56, Tryd.ntmps56
    go_wp2_with fail
    exact bodyPost_end (v := .tuple #[]) (by simp [results, Tryd.results56, go_sem]) rfl ⟨rfl, rfl⟩
  · have HH := hid (fun W (h : XJ b s W) => has_any b s n W h hi)
    rw [hh] at HH
    clear h hi hh
    go_enter Tryd.func56, Tryd.ntmps56
    go_wp2_with fail
    refine (HH.out _ (by exact R.out)).mono ?_
    rintro e w2 ⟨rfl, rfl⟩
    go_wp2_with fail
    exact bodyPost_end (v := .tuple #[]) (by simp [results, Tryd.results56, go_sem]) rfl ⟨rfl, rfl⟩
theorem set_none {d : List (Option RecS)} {n : Nat} (h : (dAt d (n : Int)).isSome = false) : d.set n none = d := by
  rw [dAt_nat] at h
  apply List.ext_getElem?
  intro i
  rw [List.getElem?_set]
  by_cases e : n = i
  · subst e
    rw [if_pos rfl]
    cases hd : d[n]? with
    | none =>
      rw [if_neg]
      have := List.getElem?_eq_none_iff.1 hd
      omega
    | some o =>
      have hlt := (List.getElem?_eq_some_iff.1 hd).1
      rw [if_pos hlt]
      rw [hd] at h
      cases o with
      | none => rfl
      | some r => simp at h
  · rw [if_neg e]
theorem rforget_any (b : Nat) (s : JobS) (n : Int) (w : World) (h : XJ b s w) (hi : JI s) : Calls Tryd.prog 56 #[.pointer (some ⟨b, 0, none⟩), .int .i64 n] w fun e w' => e = .returned (.tuple #[]) ∧ XJ b (forgetJ s n) w' ∧ Only (fun k => k = b) w w' := by
  have hno : forgetJ s n = s → ((s.st == 1) = false ∨ ((s.st == 1) = true ∧ (dAt s.d n).isSome = false)) → Calls Tryd.prog 56 #[.pointer (some ⟨b, 0, none⟩), .int .i64 n] w fun e w' => e = .returned (.tuple #[]) ∧ XJ b (forgetJ s n) w' ∧ Only (fun k => k = b) w w' := by
    intro e1 hh
    rw [e1]
    refine (rforget_no b s n w h hi hh).mono ?_
    rintro e w' ⟨rfl, rfl⟩
    exact ⟨rfl, h, Only.refl _ _⟩
  by_cases hst : s.st = 1
  · have d1 : (s.st == 1) = true := by simp [hst]
    rcases Int.lt_or_le n 0 with h0 | h0
    · exact hno (by unfold forgetJ; rw [if_neg (by omega)]) (.inr ⟨d1, by rw [dAt_neg _ _ h0]; rfl⟩)
    · obtain ⟨k, rfl⟩ := Int.eq_ofNat_of_zero_le h0
      have e1 : forgetJ s (k : Int) = { s with d := s.d.set k none } := by unfold forgetJ; rw [if_pos ⟨hst, h0⟩]; rfl
      cases hq : (dAt s.d (k : Int)).isSome with
      | false => exact hno (by rw [e1, set_none hq]) (.inr ⟨d1, hq⟩)
      | true =>
        have hk : k < 16 := by
          have := hi.len
          rcases Nat.lt_or_ge k 16 with h1 | h1
          · exact h1
          · rw [dAt_far _ _ (by omega)] at hq
            simp at hq
        rw [e1]
        exact rforget_yes b s k w h hi hst hk hq
  · exact hno (by unfold forgetJ; rw [if_neg (by omega)]) (.inl (by simp [hst]))
end Go.Proofs.YtabklmkdneoaaaaDoor
/- Chapter 27: the document's Replay: what it holds. -/
namespace Go.Proofs.YtabklmkdneoaaaaDoor
open Go.RowKit

/-- The document's job of one's own. -/
structure XW (w : World) (b : Nat) (s : JobS) (W : World) : Prop where
  j : XJ b s W
  bel : Below w.heap.size w W
  lo : w.heap.size ≤ b
theorem XW.step {w W W' : World} {b : Nat} {s : JobS} (h : XW w b s W) (hb : Below W.heap.size W W') : XW w b s W' :=
  ⟨h.j.below hb, h.bel.trans (hb.mono h.bel.size), h.lo⟩
theorem XW.only {w W W' : World} {b : Nat} {s s' : JobS} (h : XW w b s W) (hj : XJ b s' W') (ho : Only (fun k => k = b) W W') : XW w b s' W' :=
  ⟨hj, h.bel.trans ⟨ho.os, ho.tape, ho.output, ho.size, fun k hk => ho.block k (by have := h.bel.size; omega) (by have := h.lo; omega)⟩, h.lo⟩
theorem XC.zero : XC jobZ Tryd.zeroCells94 := by
  refine ⟨by kernel_rfl, by kernel_rfl, by kernel_rfl, by kernel_rfl, by kernel_rfl, ?_, ?_, ?_, ?_, ?_, ?_, by kernel_rfl, by kernel_rfl, by kernel_rfl, by kernel_rfl, by kernel_rfl⟩
  all_goals
    intro i hi
    obtain rfl | rfl | rfl | rfl | rfl | rfl | rfl | rfl | rfl | rfl | rfl | rfl | rfl | rfl | rfl | rfl : i = 0 ∨ i = 1 ∨ i = 2 ∨ i = 3 ∨ i = 4 ∨ i = 5 ∨ i = 6 ∨ i = 7 ∨ i = 8 ∨ i = 9 ∨ i = 10 ∨ i = 11 ∨ i = 12 ∨ i = 13 ∨ i = 14 ∨ i = 15 := by omega
    all_goals kernel_rfl
theorem XW.new (w : World) : XW w w.heap.size jobZ (w.alloc (.cells Tryd.zeroCells94 94)) :=
  ⟨⟨_, Blk.new _ _ _, XC.zero⟩, (Below.refl _ _).alloc (Nat.le_refl _) _, Nat.le_refl _⟩
end Go.Proofs.YtabklmkdneoaaaaDoor
/- Chapter 27: the document's Replay. -/
namespace Go.Proofs.YtabklmkdneoaaaaDoor
open Go.RowKit

def RReplRes (l : List RecS) (w : World) (e : Ending) (w' : World) : Prop :=
  ∃ b n, e = .returned (.tuple #[.pointer (some ⟨b, 0, none⟩), .int .i64 (n : Nat)]) ∧ XW w b (replTo (l.take n) jobZ) w' ∧ n ≤ l.length ∧ TakenTo l n ∧ ∀ r, l[n]? = some r → applyNo (replTo (l.take n) jobZ) r ≠ 0
set_option maxRecDepth 100000 in
set_option maxHeartbeats 1000000 in
theorem rreplay_any (x : Value) (l : List RecS) (w : World) (hx : RdR w x l) (hl : l.length ≤ 1000000) : Calls Tryd.prog 45 #[x] w (RReplRes l w) := by
  obtain ⟨A, c, rfl, hc⟩ := hx.form
  have X := hid (And.intro hx hl)
  have Q1 := hid (XW.new w)
  clear hx hl hc
  go_enter Tryd.func45, Tryd.ntmps45
  go_wp2_with fail
  go_loopg [5] l.length (fun k iv wr => ∃ i : Nat, i + k = l.length ∧ iv = .int .i64 i ∧ XW w w.heap.size (replTo (l.take i) jobZ) wr ∧ TakenTo l i)
  case atStart => exact ⟨0, by omega, rfl, Q1.out, fun k hk => by omega⟩
  case round =>
    obtain ⟨i, hi, rfl, hQ, hT⟩ := hrel
    have hl := X.out.2
    by_cases hlt : i < l.length
    · obtain ⟨r, hr⟩ : ∃ r, l[i]? = some r := ⟨l[i], List.getElem?_eq_getElem hlt⟩
      have hsn : replTo (l.take (i + 1)) jobZ = applyJ (replTo (l.take i) jobZ) r := by
        rw [List.take_add_one, hr]
        exact repl_snoc _ _ _
      have hJF := JF.repl (l.take i)
      obtain ⟨b1, o1, rfl, _, p0, p1, p2, p3, p4⟩ := (X.out.1.below hQ.bel).at_ hr
      have k0 : (0 : Int) ≤ (i : Int) := by omega
      have k1 : (i : Int) < (l.length : Int) := by omega
      have d1 : decide ((i : Int) < (l.length : Int)) = true := by simp; omega
      have d2 : decide (i < l.length) = true := by simp; omega
      have Q := hid hQ
      have HT := hid (And.intro hT (And.intro hi (And.intro hlt (And.intro hr hsn))))
      have HA := hid (fun W (h : XJ w.heap.size (replTo (l.take i) jobZ) W) => rapply_any w.heap.size _ r W h hJF.toJI)
      have hno : (applyNo (replTo (l.take i) jobZ) r == 0) = true ∨ (applyNo (replTo (l.take i) jobZ) r == 0) = false := by cases (applyNo (replTo (l.take i) jobZ) r == 0) <;> simp
      have href := apply_refused (s := replTo (l.take i) jobZ) (r := r)
      have HN := hid (And.intro hno href)
      clear hQ hT hi hlt hr hsn hJF hno href
      obtain ⟨rk, r1, r2, r3, r4⟩ := r
      dsimp only at p0 p1 p2 p3 p4
      unfold RAppRes RecS.val at HA
      dsimp only at HA
      generalize hS : replTo (l.take i) jobZ = S at *
      generalize hAN : applyNo S ⟨rk, r1, r2, r3, r4⟩ = an at *
      generalize hAJ : applyJ S ⟨rk, r1, r2, r3, r4⟩ = aj at *
      have HH := hid (And.intro hS (And.intro hAN hAJ))
      clear hS hAN hAJ
      rcases HN.out.1 with h0 | h0
      all_goals
        have HO := hid (fun W => err_ok an (.slice none 0 0) W)
        rw [h0] at HO
        have H0 := hid h0
        clear h0
        go_wp2_with fail
        refine (HA.out _ (by exact Q.out.j)).mono ?_
        rintro e w3 ⟨rfl, hj, ho⟩
        have Q3 := hid (Q.out.only hj ho)
        clear hj ho p0 p1 p2 p3 p4
        go_wp2_with fail
        refine (HO.out _).mono ?_
        rintro e w4 ⟨rfl, hb⟩
        have Q4 := hid (Q3.out.step hb)
        clear hb
        go_wp2_with fail
        obtain ⟨hT, hi, hlt, hr, hsn⟩ := HT.out
        first
          | (go_roundg (gk - 1)
             case measure => omega
             case rel =>
               refine ⟨i + 1, by omega, by go_num, by rw [hsn]; exact Q4.out, ?_⟩
               intro k hk r' hr'
               by_cases hki : k = i
               · subst hki
                 rw [hr] at hr'
                 injection hr' with hr'
                 subst hr'
                 rw [HH.out.1, HH.out.2.1]
                 simpa using H0.out
               · exact hT k (by omega) r' hr')
          | (go_ret2
             have hn0 : an ≠ 0 := by simpa using H0.out
             refine ⟨w.heap.size, i, rfl, ?_, by omega, hT, fun r' hr' => ?_⟩
             · rw [HH.out.1]
               have h2 := HN.out.2 hn0
               have h3 := Q4.out
               rw [h2] at h3
               exact h3
             · rw [hr] at hr'
               injection hr' with hr'
               subst hr'
               rw [HH.out.1, HH.out.2.1]
               exact hn0)
    · obtain rfl : i = l.length := by omega
      have d1 : decide ((l.length : Int) < (l.length : Int)) = false := by simp
      have Q := hid hQ
      clear hQ hi hlt
      go_wp2_with fail
      go_ret2
      exact ⟨w.heap.size, l.length, rfl, Q.out, Nat.le_refl _, hT, fun r' hr' => by rw [List.getElem?_eq_none (Nat.le_refl _)] at hr'; exact absurd hr' (by simp)⟩
end Go.Proofs.YtabklmkdneoaaaaDoor
