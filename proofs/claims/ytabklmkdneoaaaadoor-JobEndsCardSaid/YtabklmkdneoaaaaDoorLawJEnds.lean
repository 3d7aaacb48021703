/- JobEnds: the walk. -/
import Derived.Test.YtabklmkdneoaaaaDoorLawJApart
import Derived.Test.YtabklmkdneoaaaaDoorOpenStr
import Derived.Deep.CutBlock
import Derived.Deep.RegionHeldLaw
namespace Go.Proofs.YtabklmkdneoaaaaDoor
open Go.RowKit

def endS (ch : Int) : JobS := ⟨1, 0, ch, 0, noD, recZ⟩
theorem ends_start {ch : Int} (h1 : 1 ≤ ch) (h2 : ch ≤ 16) : applyNo jobZ ⟨48, 0, ch, 0, 0⟩ = 0 ∧ applyJ jobZ ⟨48, 0, ch, 0, 0⟩ = endS ch := by
  have hm : mayR ⟨48, 0, ch, 0, 0⟩ = true := by simp [mayR, sumB]; omega
  constructor
  · unfold applyNo; rw [if_neg (by rw [hm]; decide), if_pos ⟨rfl, rfl⟩]
  · unfold applyJ; rw [if_neg (by rw [hm]; decide), if_pos ⟨rfl, rfl⟩]; rfl
theorem cnt_append (a b : List (Option RecS)) : cntD (a ++ b) = cntD a + cntD b := by unfold cntD; rw [List.filter_append, List.length_append]
theorem cnt_none (a : List (Option RecS)) (h : ∀ i : Nat, (a[i]?).join = none) : cntD a = 0 := by
  induction a with
  | nil => rfl
  | cons o a ih =>
    rw [cnt_cons, ih (fun i => by have := h (i + 1); simpa using this)]
    have h0 : (some o : Option (Option RecS)).join = none := h 0
    have : o = none := h0
    subst this
    rfl
theorem miss_take (s : JobS) : ∀ i, i ≤ s.d.length → (missTo s i).length + cntD (s.d.take i) = i := by
  intro i
  induction i with
  | zero => intro _; rfl
  | succ i ih =>
    intro h
    have h1 := ih (by omega)
    have e : s.d.take (i + 1) = s.d.take i ++ [s.d[i]'(by omega)] := by rw [List.take_add_one, List.getElem?_eq_getElem (by omega)]; rfl
    have hd : dAt s.d (i : Int) = s.d[i]'(by omega) := by rw [dAt_nat, List.getElem?_eq_getElem (by omega)]; rfl
    rw [e, cnt_append]
    cases hq : (dAt s.d (i : Int)).isSome
    · rw [missTo_no hq, List.length_append]
      rw [hd] at hq
      have : cntD [s.d[i]'(by omega)] = 0 := by unfold cntD; simp [hq]
      simp only [List.length_singleton]
      omega
    · rw [missTo_yes hq]
      rw [hd] at hq
      have : cntD [s.d[i]'(by omega)] = 1 := by unfold cntD; simp [hq]
      omega
theorem miss_len {s : JobS} (h : JI s) : ((missTo s s.ch.toNat).length : Int) = s.ch - (cntD s.d : Int) := by
  have h1 := h.len; have h2 := h.ch0; have h3 := h.ch1
  have hm := miss_take s s.ch.toNat (by omega)
  have hs : cntD s.d = cntD (s.d.take s.ch.toNat) := by
    conv => lhs; rw [← List.take_append_drop s.ch.toNat s.d]
    rw [cnt_append, cnt_none (s.d.drop s.ch.toNat)]
    · omega
    · intro i
      rw [List.getElem?_drop]
      cases hj : (s.d[s.ch.toNat + i]?).join with
      | none => rfl
      | some r => have := h.in_ (s.ch.toNat + i) (by rw [hj]; simp); omega
  omega
/-- A job that runs, of ch chunks. -/
structure ES (ch : Int) (s : JobS) : Prop where
  jf : JF s
  st : s.st = 1
  ch : s.ch = ch
theorem ends_done {ch : Int} {s : JobS} (h : ES ch s) (n i : Nat) (hn : (n : Int) < ch) (hi : i ≤ 400) : applyNo s ⟨49, 0, n, i, 0⟩ = 0 ∧ applyJ s ⟨49, 0, n, i, 0⟩ = { s with d := s.d.set n (some ⟨49, 0, n, i, 0⟩) } := by
  have h16 := h.jf.ch1
  have hc := h.ch
  have hm : mayR ⟨49, 0, n, i, 0⟩ = true := by simp [mayR, sumB, lenB]; omega
  have hr : runNo s ⟨49, 0, n, i, 0⟩ = 0 := by unfold runNo; rw [if_pos rfl, if_neg (by show ¬ s.ch ≤ (n : Int); omega)]
  constructor
  · unfold applyNo
    rw [if_neg (by rw [hm]; decide), if_neg (fun e => absurd e.2 (by show ¬ (49 : Int) = 48; decide)), if_neg (by rw [h.st]; show ¬ ((1 : Int) ≠ 1 ∨ (49 : Int) = 48); decide)]
    exact hr
  · unfold applyJ
    rw [if_neg (by rw [hm]; decide), if_neg (fun e => absurd e.2 (by show ¬ (49 : Int) = 48; decide)), if_neg (by rw [h.st]; show ¬ ((1 : Int) ≠ 1 ∨ (49 : Int) = 48); decide)]
    unfold runJ
    rw [hr, if_neg (by decide), if_pos rfl]
    rfl
theorem ES.done {ch : Int} {s : JobS} (h : ES ch s) (n i : Nat) (hn : (n : Int) < ch) (hi : i ≤ 400) : ES ch { s with d := s.d.set n (some ⟨49, 0, n, i, 0⟩) } := by
  have := h.jf.apply ⟨49, 0, n, i, 0⟩
  rw [(ends_done h n i hn hi).2] at this
  exact ⟨this, h.st, h.ch⟩
theorem ends_end {ch : Int} {s : JobS} (h : ES ch s) (hc : 1 ≤ ch) (er : RecS) (hk : er.kind = 51) : applyNo s er = (if mayR er = false then 2 else if (cntD s.d : Int) = ch then 0 else 14) ∧ ((applyJ s er).st == 3) = (mayR er && decide ((cntD s.d : Int) = ch)) := by
  have hcc := h.jf.toJI.cnt.1
  rw [h.ch] at hcc
  have hr : runNo s er = if (cntD s.d : Int) = ch then 0 else 14 := by
    unfold runNo
    rw [if_neg (by omega), if_neg (by omega), h.ch]
    by_cases e : (cntD s.d : Int) = ch
    · rw [if_neg (by omega), if_pos e]
    · rw [if_pos (by omega), if_neg e]
  constructor
  · unfold applyNo
    split
    · rfl
    · rw [if_neg (by omega), if_neg (by rw [h.st]; omega), hr]
  · unfold applyJ
    by_cases hm : mayR er = false
    · rw [if_pos hm, hm, h.st]; rfl
    · rw [if_neg hm, if_neg (by omega), if_neg (by rw [h.st]; omega)]
      have hm' : mayR er = true := by simpa using hm
      unfold runJ
      rw [hr, hm']
      by_cases e : (cntD s.d : Int) = ch
      · rw [if_pos e, if_neg (by decide), if_neg (by omega), if_neg (by omega)]
        simp [e]
      · rw [if_neg e, if_pos (by decide), h.st]
        simp [e]
def toldCells (d : List (Option RecS)) : Array Value := (d.map fun o => Value.bool o.isSome).toArray
theorem told_set (d : List (Option RecS)) (n : Nat) (r : RecS) : (toldCells d).setIfInBounds n (.bool true) = toldCells (d.set n (some r)) := by
  unfold toldCells
  rw [List.setIfInBounds_toArray, List.map_set]
  rfl
theorem told_at (d : List (Option RecS)) (n : Nat) (h : n < d.length) : (toldCells d)[n]? = some (.bool (dAt d (n : Int)).isSome) := by
  unfold toldCells
  rw [dAt_nat]
  simp [h]
theorem tmod_abs {z ch : Int} (h1 : 1 ≤ ch) (h2 : ch ≤ 16) : ∃ n : Nat, (n : Int) < ch ∧ ((decide (z.tmod ch < 0) = false ∧ z.tmod ch = n) ∨ (decide (z.tmod ch < 0) = true ∧ wrap64 (-(z.tmod ch)) = n)) := by
  have hlt : z.tmod ch < ch := Int.tmod_lt_of_pos z (by omega)
  have hgt : -ch < z.tmod ch := by
    have := Int.lt_tmod_of_pos z (show 0 < ch by omega)
    omega
  refine ⟨(z.tmod ch).natAbs, by omega, ?_⟩
  rcases Int.lt_or_le (z.tmod ch) 0 with h | h
  · exact .inr ⟨by simpa using h, by rw [IntWalk.wrap64_in _ (by omega)]; omega⟩
  · exact .inl ⟨by simpa using h, by omega⟩
/-- What JobEnds holds in its loop. -/
structure EW (w : World) (b1 m1 g : Nat) (er : RecS) (s : JobS) (d : List (Option RecS)) (W : World) : Prop where
  j : JW w b1 m1 s W
  e : Blk W w.heap.size 73 #[.int .i64 er.kind, .int .i64 er.sum, .int .i64 er.num, .int .i64 er.len, .int .i64 er.code]
  t : Blk W g 4 (toldCells d)
section
variable {w W W' : World} {b1 m1 g : Nat} {er : RecS} {s s' : JobS} {d : List (Option RecS)}
theorem EW.step (h : EW w b1 m1 g er s d W) (hb : Below W.heap.size W W') : EW w b1 m1 g er s d W' := ⟨h.j.step hb, h.e.below hb h.e.lt, h.t.below hb h.t.lt⟩
theorem EW.run (h : EW w b1 m1 g er s d W) (h1 : w.heap.size ≠ b1 ∧ w.heap.size ≠ m1 ∧ g ≠ b1 ∧ g ≠ m1) (hj : JobAt b1 m1 s' W') (ho : Only (JF2 b1 m1) W W') : EW w b1 m1 g er s' d W' :=
  ⟨h.j.only hj ho, h.e.keep ho (by unfold JF2; omega), h.t.keep ho (by unfold JF2; omega)⟩
theorem EW.other {b2 m2 : Nat} (h : EW w b1 m1 g er s d W) (hb : Below w.heap.size w W') (h1 : b2 ≠ b1 ∧ b2 ≠ m1 ∧ m2 ≠ b1 ∧ m2 ≠ m1 ∧ b2 ≠ w.heap.size ∧ m2 ≠ w.heap.size ∧ b2 ≠ g ∧ m2 ≠ g) (ho : Only (JF2 b2 m2) W W') : EW w b1 m1 g er s d W' :=
  ⟨h.j.other ho hb (by omega) (by omega) (by omega) (by omega), h.e.keep ho (by unfold JF2; omega), h.t.keep ho (by unfold JF2; omega)⟩
end
theorem jends_skip (ch : Int) (n : Nat) (A : Option Addr) (c : Nat) (r : RecS) (w : World) (hg : ErrT w) (hbad : ch < 1 ∨ 16 < ch ∨ 400 < n) :
    Calls Tryd.prog 11 #[.int .i64 ch, .slice A n c, r.val] w fun e w' => e = .returned (.bool true) ∧ Below w.heap.size w w' := by
  have hb0 : Below w.heap.size w (w.alloc (.cells #[.int .i64 r.kind, .int .i64 r.sum, .int .i64 r.num, .int .i64 r.len, .int .i64 r.code] 73)) := (Below.refl _ _).alloc (Nat.le_refl _) _
  have HG := hid (And.intro (hg.below hb0 hg.lt) hb0)
  have hcase : decide (ch < 1) = true ∨ (decide (ch < 1) = false ∧ decide (16 < ch) = true) ∨ (decide (ch < 1) = false ∧ decide (16 < ch) = false ∧ decide ((400 : Int) < (n : Int)) = true) := by
    simp only [decide_eq_true_eq, decide_eq_false_iff_not]
    omega
  unfold RecS.val
  clear hg hbad hb0
  rcases hcase with h1 | ⟨h1, h2⟩ | ⟨h1, h2, h3⟩
  all_goals
    go_enter Tryd.func11, Tryd.ntmps11
    go_wp2_with fail
    refine (jfirst_any _ HG.out.1).mono ?_
    rintro e w1 ⟨rfl, h1⟩
    have B1 := hid h1
    clear h1
    go_wp2_with fail
    refine (jfirst_any _ (HG.out.1.below B1.out HG.out.1.lt)).mono ?_
    rintro e w2 ⟨rfl, h1⟩
    have B2 := hid h1
    clear h1
    go_wp2_with fail
    go_ret
    exact ⟨rfl, HG.out.2.trans ((B1.out.trans (B2.out.mono B1.out.size)).mono HG.out.2.size)⟩
set_option maxRecDepth 100000 in
set_option maxHeartbeats 8000000 in
theorem jends_walk (x : Value) (ch : Int) (l : List Int) (r : RecS) (w : World) (_ : (Lit.int .i64 ch).wf = true) (hx : Els w 1 IntR x l) (_ : l.length ≤ maxLen) (hg : ErrT w) :
    Calls Tryd.prog 11 #[.int .i64 ch, x, r.val] w fun e w' => e = .returned (.bool true) ∧ Below w.heap.size w w' := by
  obtain ⟨A, c, rfl, hc⟩ := Els.form hx
  by_cases hbad : ch < 1 ∨ 16 < ch ∨ 400 < l.length
  · exact jends_skip ch l.length A c r w hg hbad
  · have hc1 : 1 ≤ ch := by omega
    have hc2 : ch ≤ 16 := by omega
    have t1 : decide (ch < 1) = false := by simp; omega
    have t2 : decide (16 < ch) = false := by simp; omega
    have t3 : decide ((400 : Int) < (l.length : Int)) = false := by simp; omega
    have HL := hid (show l.length ≤ 400 by omega)
    have X := hid hx
    obtain ⟨rk, r1, r2, r3, r4⟩ := r
    have hb0 : Below w.heap.size w (w.alloc (.cells #[.int .i64 rk, .int .i64 r1, .int .i64 r2, .int .i64 r3, .int .i64 r4] 73)) := (Below.refl _ _).alloc (Nat.le_refl _) _
    have HG := hid (And.intro hg (And.intro hg.lt (And.intro hb0 (Blk.new w 73 #[.int .i64 rk, .int .i64 r1, .int .i64 r2, .int .i64 r3, .int .i64 r4]))))
    have A0 := hid (fun W b m (h : JobAt b m jobZ W) => apply_any b m jobZ ⟨48, 0, ch, 0, 0⟩ W h JI.zero)
    rw [(ends_start hc1 hc2).1, (ends_start hc1 hc2).2] at A0
    have HM := hid (fun W => gmay_any ⟨51, r1, r2, r3, r4⟩ W)
    have hmk : ∀ W : World, (Instr.makeSlice 85 (.int .i64 16) (.int .i64 16)).run Tryd.prog W = .ok (.slice (some ⟨W.heap.size, 0, none⟩) 16 16) (W.alloc (.cells #[.bool false, .bool false, .bool false, .bool false, .bool false, .bool false, .bool false, .bool false, .bool false, .bool false, .bool false, .bool false, .bool false, .bool false, .bool false, .bool false] 4)) := fun _ => by kernel_rfl
    have ES0 : ES ch (endS ch) := ⟨by have := JF.zero.apply ⟨48, 0, ch, 0, 0⟩; rw [(ends_start hc1 hc2).2] at this; exact this, rfl, rfl⟩
    have HE := hid ES0
    generalize hS0 : endS ch = S0 at *
    have HS0 := hid hS0
    unfold RunRes RecS.val at *
    dsimp only at *
    rw [show codeV 0 = .nilIface from rfl] at A0
    have hmr : mayR ⟨51, r1, r2, r3, r4⟩ = true ∨ mayR ⟨51, r1, r2, r3, r4⟩ = false := by cases mayR ⟨51, r1, r2, r3, r4⟩ <;> simp
    have ENDS := hid (fun s (h : ES ch s) => ends_end h hc1 ⟨51, r1, r2, r3, r4⟩ rfl)
    generalize hmay : mayR ⟨51, r1, r2, r3, r4⟩ = may at *
    clear hg hx hc hbad hb0 ES0 hS0 hmay
    go_enter Tryd.func11, Tryd.ntmps11
    go_wp2_with fail
    refine (jfirst_any _ (HG.out.1.below HG.out.2.2.1 HG.out.2.1)).mono ?_
    rintro e w1 ⟨rfl, h1⟩
    have B1 := hid (And.intro (HG.out.2.2.1.trans (h1.mono HG.out.2.2.1.size)) (HG.out.2.2.2.below h1 HG.out.2.2.2.lt))
    clear h1
    go_wp2_with fail
    refine (jnew_any _).mono ?_
    rintro e w2 ⟨b1, m1, rfl, hj, hb, hlo, hlom⟩
    have hwl := B1.out.2.lt
    have Q2 := hid (And.intro (show JW w b1 m1 jobZ w2 from ⟨hj, B1.out.1.trans (hb.mono B1.out.1.size), Nat.le_trans B1.out.1.size hlo, Nat.le_trans B1.out.1.size hlom⟩) (And.intro (B1.out.2.below hb hwl) (show w.heap.size ≠ b1 ∧ w.heap.size ≠ m1 by omega)))
    clear hj hb hlo hlom hwl
    go_wp2_with fail
    refine (A0.out _ _ _ (by exact Q2.out.1.j)).mono ?_
    rintro e w3 ⟨rfl, hj, ho⟩
    have Q3 := hid (And.intro (Q2.out.1.only hj ho) (Q2.out.2.1.keep ho (by have := Q2.out.2.2; unfold JF2; omega)))
    clear hj ho
    obtain ⟨p0, p1, p2, p3, p4⟩ := blk5 Q3.out.2
    have f0 := Q3.out.2.frozen 0
    go_wp2_with fail
    refine (HM.out _).mono ?_
    rintro e w5 ⟨rfl, h5⟩
    have hO3 : Only (fun k => k = w.heap.size) w3 (w3.setCell ⟨w.heap.size, 0, none⟩ (.int .i64 51)) := (Only.refl (fun k => k = w.heap.size) w3).put (b := w.heap.size) rfl 0 _
    have hE3 := Q3.out.2.put 0 (.int .i64 51)
    have hne := Q2.out.2.2
    have hbel : Below w.heap.size w (w3.setCell ⟨w.heap.size, 0, none⟩ (.int .i64 51)) := Q3.out.1.bel.trans ⟨hO3.os, hO3.tape, hO3.output, hO3.size, fun k hk => hO3.block k (by have := Q3.out.1.bel.size; omega) (by omega)⟩
    have hJ4 : JW w b1 m1 S0 (w3.setCell ⟨w.heap.size, 0, none⟩ (.int .i64 51)) := ⟨Q3.out.1.j.keep hO3 (by omega) (by omega), hbel, Q3.out.1.lo, Q3.out.1.lom⟩
    have hba : Below w5.heap.size w5 (w5.alloc (.cells #[.bool false, .bool false, .bool false, .bool false, .bool false, .bool false, .bool false, .bool false, .bool false, .bool false, .bool false, .bool false, .bool false, .bool false, .bool false, .bool false] 4)) := (Below.refl _ _).alloc (Nat.le_refl _) _
    have hg5 : w.heap.size ≠ w5.heap.size ∧ w5.heap.size ≠ b1 ∧ w5.heap.size ≠ m1 := by
      have e1 := (hJ4.step h5).j.blk.lt
      have e2 := (hJ4.step h5).j.map.lt
      have e3 := (hE3.below h5 hE3.lt).lt
      omega
    have NE := hid (show w.heap.size ≠ b1 ∧ w.heap.size ≠ m1 ∧ w5.heap.size ≠ b1 ∧ w5.heap.size ≠ m1 ∧ w.heap.size ≠ w5.heap.size from ⟨hne.1, hne.2, hg5.2.1, hg5.2.2, hg5.1⟩)
    have E6 := hid (show EW w b1 m1 w5.heap.size ⟨51, r1, r2, r3, r4⟩ S0 S0.d (w5.alloc (.cells #[.bool false, .bool false, .bool false, .bool false, .bool false, .bool false, .bool false, .bool false, .bool false, .bool false, .bool false, .bool false, .bool false, .bool false, .bool false, .bool false] 4)) from
      ⟨(hJ4.step h5).step hba, (hE3.below h5 hE3.lt).below hba (hE3.below h5 hE3.lt).lt, by rw [← HS0.out]; exact Blk.new w5 4 #[.bool false, .bool false, .bool false, .bool false, .bool false, .bool false, .bool false, .bool false, .bool false, .bool false, .bool false, .bool false, .bool false, .bool false, .bool false, .bool false]⟩)
    have HSZ5 := hid (show w3.heap.size ≤ w5.heap.size from Nat.le_trans hO3.size h5.size)
    clear h5 hO3 hE3 hbel hJ4 hba hg5 hne p0 p1 p2 p3 p4 f0
    have NGW := hid (show ¬ w5.heap.size < w.heap.size by have h1 := E6.out.e.lt; have h2 := Q3.out.1.bel.size; have h3 := Q3.out.2.lt; have h4 := HSZ5.out; omega)
    have hct0 : (cntD S0.d : Int) = 0 := by rw [← HS0.out]; rfl
    have CT0 := hid hct0
    clear hct0
    go_wp2_with fail
    generalize hg0 : w5.heap.size = g at *
    clear hg0
    go_loopg [10, 11] l.length (fun k lv iv wr => ∃ (i : Nat) (S : JobS), i + k = l.length ∧ iv = .int .i64 i ∧ lv = .int .i64 (ch - (cntD S.d : Int)) ∧ ES ch S ∧ EW w b1 m1 g ⟨51, r1, r2, r3, r4⟩ S S.d wr)
    case atStart => exact ⟨0, S0, by omega, rfl, by rw [CT0.out]; simp, HE.out, E6.out⟩
    case round =>
      obtain ⟨i, S, hi, rfl, rfl, hS, hE⟩ := hrel
      have hl4 := HL.out
      have hcc := hS.jf.toJI.cnt.1
      rw [hS.ch] at hcc
      have hcnt0 : 0 ≤ (cntD S.d : Int) := by omega
      have hend := (ENDS.out S hS).1
      have hend2 := (ENDS.out S hS).2
      have HAE := hid (fun W b m (h : JobAt b m S W) => apply_any b m S ⟨51, r1, r2, r3, r4⟩ W h hS.jf.toJI)
      rw [hend] at HAE
      unfold RunRes RecS.val at HAE
      dsimp only at HAE
      by_cases hlt : i < l.length
      · obtain ⟨z, hz⟩ : ∃ z, l[i]? = some z := ⟨l[i], List.getElem?_eq_getElem hlt⟩
        obtain ⟨b0, o0, cs0, rfl, hb0, _, ⟨rfl, hzw⟩, hcell⟩ := Els.at_ X.out hz
        have hz0 := hcell 0 _ rfl
        rw [Nat.mul_one, Nat.add_zero] at hz0
        have HZ := hid hz0
        obtain ⟨n, hn, hsign⟩ := tmod_abs (z := z) hc1 hc2
        have k0 : (0 : Int) ≤ (i : Int) := by omega
        have k1 : (i : Int) < (l.length : Int) := by omega
        have d1 : decide ((i : Int) < (l.length : Int)) = true := by simp; omega
        obtain ⟨w7, hw7⟩ : ∃ w7, w7 = wr := ⟨_, rfl⟩
        subst hw7
        have E7 := hid hE
        have SS := hid (And.intro hS (And.intro hi (And.intro hn hsign)))
        obtain ⟨e0, e1, e2, e3, e4⟩ := blk5 E7.out.e
        dsimp only at e0 e1 e2 e3 e4
        have hcnt : (cntD S.d : Int) = ch ∨ (cntD S.d : Int) ≠ ch := by omega
        have hch0 : ¬ ch = 0 := by omega
        clear hS hE hi hz hcell hend hend2 hsign hlt hn hb0 hz0
        go_upto_region 15 with fail
        go_cut [61] from 51 to 61 (fun v W => v = .bool false ∧ EW w b1 m1 g ⟨51, r1, r2, r3, r4⟩ S S.d W)
        case first =>
          have hres : (may = true ∧ ((cntD S.d : Int) = ch) ∧ (ch - (cntD S.d : Int) == 0) = true) ∨ (may = true ∧ ¬ ((cntD S.d : Int) = ch) ∧ (ch - (cntD S.d : Int) == 0) = false) ∨ (may = false ∧ (ch - (cntD S.d : Int) == 0) = true) ∨ (may = false ∧ (ch - (cntD S.d : Int) == 0) = false) := by
            simp only [beq_iff_eq, beq_eq_false_iff_ne]
            cases may <;> simp <;> omega
          clear hcnt
          rcases hres with ⟨rfl, hf, hz1⟩ | ⟨rfl, hf, hz1⟩ | ⟨rfl, hz1⟩ | ⟨rfl, hz1⟩
          all_goals
            first
              | (rw [if_neg (by decide), if_pos hf, show codeV 0 = .nilIface from rfl] at HAE
                 clear hf)
              | (rw [if_neg (by decide), if_neg hf, show codeV 14 = .iface 29 (.int .i64 14) from rfl] at HAE
                 clear hf)
              | rw [if_pos rfl, show codeV 2 = .iface 29 (.int .i64 2) from rfl] at HAE
            go_wp2_with fail
            first
              | (go_region_held_law (fun W => W.cell? ⟨w.heap.size, 0, none⟩ = some (.int .i64 51) ∧ W.cell? ⟨w.heap.size, 1, none⟩ = some (.int .i64 r1) ∧ W.cell? ⟨w.heap.size, 2, none⟩ = some (.int .i64 r2) ∧ W.cell? ⟨w.heap.size, 3, none⟩ = some (.int .i64 r3) ∧ W.cell? ⟨w.heap.size, 4, none⟩ = some (.int .i64 r4))
                 (first
                   | exact K9.out
                   | exact K8.out
                   | exact ⟨e0, e1, e2, e3, e4⟩)
                 (first
                   | (go_at_call 48
                      have hN := E8.out
                      refine (HAE.out _ b2 m2 (by exact J8.out.1)).mono ?_
                      rintro e w9 ⟨rfl, hj, ho⟩
                      have hbw : Below w.heap.size w w9 := hN.j.bel.trans ⟨ho.os, ho.tape, ho.output, ho.size, fun k hk => ho.block k (by have := hN.j.bel.size; omega) (by have := J8.out.2; unfold JF2; omega)⟩
                      have E9 := hid (hN.other hbw (by have := J8.out.2; omega) ho)
                      have K9 := hid (blk5 E9.out.e)
                      clear hj ho hbw hN)
                   | (go_at_call 50
                      refine (jcopy_any b1 m1 S _ (by first | exact E7.out.j.j | exact E7.out.j.j.below (Below.refl _ _).drew)).mono ?_
                      rintro e w8 ⟨b2, m2, rfl, hj2, hb2, hlo2, hlom2⟩
                      have hbw : Below w7.heap.size w7 w8 := ⟨hb2.os, hb2.tape, hb2.output, hb2.size, hb2.block⟩
                      have E8 := hid (E7.out.step hbw)
                      have K8 := hid (blk5 E8.out.e)
                      have J8 := hid (And.intro hj2 (show b2 ≠ b1 ∧ b2 ≠ m1 ∧ m2 ≠ b1 ∧ m2 ≠ m1 ∧ b2 ≠ w.heap.size ∧ m2 ≠ w.heap.size ∧ b2 ≠ g ∧ m2 ≠ g ∧ w.heap.size ≤ b2 ∧ w.heap.size ≤ m2 by
                        have q1 : w7.heap.size ≤ b2 := hlo2
                        have q2 : w7.heap.size ≤ m2 := hlom2
                        have q3 := E7.out.j.j.blk.lt
                        have q4 := E7.out.j.j.map.lt
                        have q5 := E7.out.e.lt
                        have q6 := E7.out.t.lt
                        omega))
                      clear hj2 hb2 hlo2 hlom2 hbw)
                   | fail))
              | fail
            all_goals
              go_wp2_with fail
              go_meet
              case rel => exact ⟨rfl, E9.out⟩
        case rest =>
          obtain ⟨rfl, hE⟩ := hcut
          obtain ⟨w10, hw10⟩ : ∃ w10, w10 = wc := ⟨_, rfl⟩
          subst hw10
          have E10 := hid hE
          have hz1 := cell_keep E10.out.j.bel HZ.out
          clear hE e0 e1 e2 e3 e4
          go_upto_if 69 with fail
          obtain ⟨hS, hi, hn, hsign⟩ := SS.out
          have hd := ends_done hS n i hn (by omega)
          have hS' := hS.done n i hn (by omega)
          have hn16 : n < 16 := by omega
          have hnl : n < S.d.length := by have := hS.jf.len; omega
          have hcs := cnt_set S.d n (some ⟨49, 0, n, i, 0⟩) hnl
          have hdat := dAt_set_same S.d n (some ⟨49, 0, n, i, 0⟩) hnl
          have htl := told_at S.d n hnl
          have hts := told_set S.d n ⟨49, 0, n, i, 0⟩
          obtain ⟨S2, hS2⟩ : ∃ S2 : JobS, S2 = { S with d := S.d.set n (some ⟨49, 0, n, i, 0⟩) } := ⟨_, rfl⟩
          have hd2 : S2.d = S.d.set n (some ⟨49, 0, n, i, 0⟩) := by rw [hS2]
          rw [← hS2] at hd hS'
          have hml := miss_len hS'.jf.toJI
          have hccS' := hS'.jf.toJI.cnt.1
          rw [hS'.ch] at hml hccS'
          have HA2 := hid (fun W (h : JobAt b1 m1 S W) => apply_any b1 m1 S ⟨49, 0, n, i, 0⟩ W h hS.jf.toJI)
          rw [hd.1, hd.2] at HA2
          unfold RunRes RecS.val at HA2
          rw [show codeV 0 = .nilIface from rfl] at HA2
          dsimp only at HA2
          have HD := hid (fun W (h : JobAt b1 m1 S2 W) => done_any b1 m1 S2 (n : Int) W h (wf_nat16 n hn16))
          have HMi := hid (fun W (h : JobAt b1 m1 S2 W) => missing_any b1 m1 S2 W h hS'.jf.toJI)
          rw [hd2, hdat] at HD
          rw [hS'.ch] at HMi
          unfold RecS.val at HD
          dsimp only [Option.getD, Option.isSome] at HD
          unfold MissRes at HMi
          have hmlen := missTo_len S2 ch.toNat
          rw [← hd2] at hcs hts
          generalize missTo S2 ch.toNat = ml at *
          generalize (dAt S.d (n : Int)).isSome = qb at *
          simp only [Option.isSome_some, if_true] at hcs
          have hcc2 : (cntD S2.d : Int) + (if qb then 1 else 0) = (cntD S.d : Int) + 1 := by
            cases qb
            · simp only [Bool.false_eq_true, if_false] at hcs ⊢
              omega
            · simp only [if_true] at hcs ⊢
              omega
          have FF := hid (And.intro hi (And.intro hS' (And.intro hml (And.intro hts (And.intro htl hmlen)))))
          have SG := hid hsign
          generalize z.tmod ch = q at *
          clear hS hi hn hsign hd hS' hnl hcs hdat hml htl hts hmlen hS2 hd2 SS
          go_cut [12] from 70 to 71 (fun v W => v = .int .i64 n ∧ w10 = W)
          case first =>
            rcases SG.out with ⟨hsg, hq⟩ | ⟨hsg, hq⟩
            all_goals
              go_wp2_with fail
              all_goals
                go_meet
                case rel =>
                  first
                    | exact ⟨by rw [hq], rfl⟩
                    | (exfalso
                       simp at hsg
                       omega)
          case rest =>
            obtain ⟨rfl, rfl⟩ := hcut
            go_wp2_with fail
            refine (HA2.out _ (by exact E10.out.j.j)).mono ?_
            rintro e w11 ⟨rfl, hj, ho⟩
            have E11 := hid (E10.out.run (by have := NE.out; omega) hj ho)
            have ht0 : w11.cell? ⟨g, n, none⟩ = some (.bool qb) := by rw [E11.out.t.cell]; exact FF.out.2.2.2.2.1
            have n0 : (0 : Int) ≤ (n : Int) := by omega
            have n1 : (n : Int) < 16 := by omega
            clear hj ho hz1
            go_upto_if 82 with fail
            go_cut [10] from 83 to 84 (fun v W => v = .int .i64 (ch - (cntD S2.d : Int)) ∧ w11 = W)
            case first =>
              cases qb
              all_goals
                simp only [if_true, Bool.false_eq_true, if_false] at hcc2
                go_wp2_with fail
                all_goals
                  go_meet
                  case rel =>
                    refine ⟨?_, rfl⟩
                    refine congrArg (Value.int .i64) ?_
                    omega
            case rest =>
              obtain ⟨rfl, rfl⟩ := hcut
              have f0 := E11.out.t.frozen n
              have hO : Only (fun k => k = g) w11 (w11.setCell ⟨g, n, none⟩ (.bool true)) := (Only.refl (fun k => k = g) w11).put (b := g) rfl n _
              have hne := NE.out
              have hgw : ¬ g < w.heap.size := NGW.out
              have E12 := hid (show EW w b1 m1 g ⟨51, r1, r2, r3, r4⟩ S2 S2.d (w11.setCell ⟨g, n, none⟩ (.bool true)) from
                ⟨⟨E11.out.j.j.keep hO (by omega) (by omega), E11.out.j.bel.trans ⟨hO.os, hO.tape, hO.output, hO.size, fun k hk => hO.block k (by have := E11.out.j.bel.size; omega) (by omega)⟩, E11.out.j.lo, E11.out.j.lom⟩, E11.out.e.keep hO (by omega), by rw [← FF.out.2.2.2.1]; exact E11.out.t.put n (.bool true)⟩)
              clear hO hne hgw
              go_wp2_with fail
              refine (HD.out _ (by exact E12.out.j.j)).mono ?_
              rintro e w13 ⟨rfl, hb⟩
              have hba : Below w13.heap.size w13 (w13.alloc (.cells #[.int .i64 49, .int .i64 0, .int .i64 n, .int .i64 i, .int .i64 0] 73)) := (Below.refl _ _).alloc (Nat.le_refl _) _
              have E13 := hid ((E12.out.step hb).step hba)
              clear hb hba ht0 f0
              go_wp2_with fail
              refine (HMi.out _ (by exact E13.out.j.j)).mono ?_
              rintro e w14 ⟨lv, rfl, ho, hb⟩
              have E14 := hid (E13.out.step hb)
              obtain ⟨A14, c14, rfl⟩ := own_slice ho
              have hml := FF.out.2.2.1
              have hne2 : (((ml.length : Nat) : Int) != ch - (cntD S2.d : Int)) = false := by rw [hml]; simp
              clear ho hb hml
              go_wp2_with fail
              obtain ⟨hi, hS', _⟩ := FF.out
              go_roundg (gk - 1)
              case measure => omega
              case rel => exact ⟨i + 1, S2, by omega, by go_num, rfl, hS', E14.out⟩
      · obtain rfl : i = l.length := by omega
        have d1 : decide ((l.length : Int) < (l.length : Int)) = false := by simp
        have E7 := hid hE
        obtain ⟨e0, e1, e2, e3, e4⟩ := blk5 E7.out.e
        dsimp only at e0 e1 e2 e3 e4
        have hres : (may = true ∧ ((cntD S.d : Int) = ch) ∧ (ch - (cntD S.d : Int) == 0) = true) ∨ (may = true ∧ ¬ ((cntD S.d : Int) = ch) ∧ (ch - (cntD S.d : Int) == 0) = false) ∨ (may = false ∧ (ch - (cntD S.d : Int) == 0) = true) ∨ (may = false ∧ (ch - (cntD S.d : Int) == 0) = false) := by
          simp only [beq_iff_eq, beq_eq_false_iff_ne]
          cases may <;> simp <;> omega
        generalize applyJ S ⟨51, r1, r2, r3, r4⟩ = S3 at *
        clear hE hi hS hlt hend
        rcases hres with ⟨rfl, hf, hz1⟩ | ⟨rfl, hf, hz1⟩ | ⟨rfl, hz1⟩ | ⟨rfl, hz1⟩
        all_goals
          first
            | (rw [if_neg (by decide), if_pos hf, show codeV 0 = .nilIface from rfl] at HAE
               have h3 : (S3.st == 3) = true := by rw [hend2]; simp [hf])
            | (rw [if_neg (by decide), if_neg hf, show codeV 14 = .iface 29 (.int .i64 14) from rfl] at HAE
               have h3 : (S3.st == 3) = false := by rw [hend2]; simp [hf])
            | (rw [if_pos rfl, show codeV 2 = .iface 29 (.int .i64 2) from rfl] at HAE
               have h3 : (S3.st == 3) = false := by rw [hend2]; simp)
          clear hend2
          go_wp2_with fail
          refine (HAE.out _ b1 m1 (by exact E7.out.j.j)).mono ?_
          rintro e w15 ⟨rfl, hj, ho⟩
          have E15 := hid (E7.out.run (by have := NE.out; omega) hj ho)
          clear hj ho e0 e1 e2 e3 e4
          go_wp2_with fail
          first
            | (go_region_held_law (fun _ => True) (exact trivial)
               (first
                 | (go_at_call 53
                    have hN := E16.out
                    refine (state_any b1 m1 S3 _ (by exact hN.j.j)).mono ?_
                    rintro e w17 ⟨rfl, rfl⟩)
                 | (go_at_call 42
                    refine (jfirst_any _ (by first | exact (HG.out.1.below E15.out.j.bel HG.out.2.1) | exact (HG.out.1.below E15.out.j.bel.drew HG.out.2.1))).mono ?_
                    rintro e w16 ⟨rfl, hb⟩
                    have E16 := hid (E15.out.step (show Below w15.heap.size w15 w16 by first | exact hb | exact ⟨hb.os, hb.tape, hb.output, hb.size, hb.block⟩))
                    clear hb)
                 | fail))
            | fail
          all_goals
            go_wp2_with fail
            go_ret
            exact ⟨rfl, by first | exact E16.out.j.bel | exact E16.out.j.bel.drew⟩
end Go.Proofs.YtabklmkdneoaaaaDoor
