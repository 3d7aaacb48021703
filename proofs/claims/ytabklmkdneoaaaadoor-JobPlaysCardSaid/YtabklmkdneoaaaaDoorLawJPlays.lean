/- JobPlays: the walk. -/
import Derived.Test.YtabklmkdneoaaaaDoorJobSame
import Derived.Test.YtabklmkdneoaaaaDoorOpenGen
import Derived.Deep.RegionHeldLaw
namespace Go.Proofs.YtabklmkdneoaaaaDoor
open Go.RowKit

/-- The program's job, the document's, a copy. -/
structure PX (w : World) (b1 m1 b2 b3 m3 : Nat) (s t u : JobS) (W : World) : Prop where
  j : JW w b1 m1 s W
  x : XW w b2 t W
  c : JobAt b3 m3 u W
structure DX (w : World) (b1 m1 b2 b3 m3 : Nat) : Prop where
  h : b2 ≠ b1 ∧ b2 ≠ m1 ∧ b3 ≠ b1 ∧ b3 ≠ m1 ∧ m3 ≠ b1 ∧ m3 ≠ m1 ∧ b3 ≠ b2 ∧ m3 ≠ b2 ∧ w.heap.size ≤ b3 ∧ w.heap.size ≤ m3
section
variable {w W W' : World} {b1 m1 b2 b3 m3 : Nat} {s t u s' t' u' : JobS}
theorem PX.step (h : PX w b1 m1 b2 b3 m3 s t u W) (hb : Below W.heap.size W W') : PX w b1 m1 b2 b3 m3 s t u W' := ⟨h.j.step hb, h.x.step hb, h.c.below hb⟩
theorem PX.runJ (h : PX w b1 m1 b2 b3 m3 s t u W) (D : DX w b1 m1 b2 b3 m3) (hj : JobAt b1 m1 s' W') (ho : Only (JF2 b1 m1) W W') : PX w b1 m1 b2 b3 m3 s' t u W' := by
  have h1 := h.j.only hj ho
  have hD := D.h
  exact ⟨h1, ⟨h.x.j.keep ho (by unfold JF2; omega), h1.bel, h.x.lo⟩, h.c.keep ho (by unfold JF2; omega) (by unfold JF2; omega)⟩
theorem PX.runX (h : PX w b1 m1 b2 b3 m3 s t u W) (D : DX w b1 m1 b2 b3 m3) (hx : XJ b2 t' W') (ho : Only (fun k => k = b2) W W') : PX w b1 m1 b2 b3 m3 s t' u W' := by
  have h1 := h.x.only hx ho
  have hD := D.h
  exact ⟨⟨h.j.j.keep ho (by omega) (by omega), h1.bel, h.j.lo, h.j.lom⟩, h1, h.c.keep ho (by omega) (by omega)⟩
theorem PX.runC (h : PX w b1 m1 b2 b3 m3 s t u W) (D : DX w b1 m1 b2 b3 m3) (hc : JobAt b3 m3 u' W') (ho : Only (JF2 b3 m3) W W') : PX w b1 m1 b2 b3 m3 s t u' W' := by
  have hD := D.h
  have hb : Below w.heap.size w W' := h.j.bel.trans ⟨ho.os, ho.tape, ho.output, ho.size, fun k hk => ho.block k (by have := h.j.bel.size; omega) (by unfold JF2; omega)⟩
  exact ⟨⟨h.j.j.keep ho (by unfold JF2; omega) (by unfold JF2; omega), hb, h.j.lo, h.j.lom⟩, ⟨h.x.j.keep ho (by unfold JF2; omega), hb, h.x.lo⟩, hc⟩
end
/-- A record's cells. -/
def RecP (W : World) (b o : Nat) (r : RecS) : Prop :=
  W.cell? ⟨b, o, none⟩ = some (.int .i64 r.kind) ∧ W.cell? ⟨b, o + 1, none⟩ = some (.int .i64 r.sum) ∧ W.cell? ⟨b, o + 2, none⟩ = some (.int .i64 r.num) ∧ W.cell? ⟨b, o + 3, none⟩ = some (.int .i64 r.len) ∧ W.cell? ⟨b, o + 4, none⟩ = some (.int .i64 r.code)
theorem RecP.keep {W W' : World} {b o : Nat} {r : RecS} {n : Nat} (h : RecP W b o r) (hb : Below n W W') (hn : b < n) : RecP W' b o r :=
  ⟨(hb.cell (p := ⟨b, o, none⟩) hn).trans h.1, (hb.cell (p := ⟨b, o + 1, none⟩) hn).trans h.2.1, (hb.cell (p := ⟨b, o + 2, none⟩) hn).trans h.2.2.1, (hb.cell (p := ⟨b, o + 3, none⟩) hn).trans h.2.2.2.1, (hb.cell (p := ⟨b, o + 4, none⟩) hn).trans h.2.2.2.2⟩
theorem RdR.recP {W : World} {A : Option Addr} {n c : Nat} {rs : List RecS} (h : RdR W (.slice A n c) rs) {i : Nat} {r : RecS} (hr : rs[i]? = some r) : ∃ b off, A = some ⟨b, off, none⟩ ∧ b < W.heap.size ∧ RecP W b (off + i * 5) r := by
  obtain ⟨b, off, e, hb, h0, h1, h2, h3, h4⟩ := h.at_ hr
  exact ⟨b, off, e, hb, h0, h1, h2, h3, h4⟩
set_option maxRecDepth 100000 in
set_option maxHeartbeats 8000000 in
theorem jplays_walk (x y : Value) (l : List RecS) (f : List Int) (w : World) (hx : RdR w x l) (_ : l.length ≤ maxLen) (hy : Els w 1 IntR y f) (hfl : f.length ≤ maxLen) (hg : ErrT w) :
    Calls Tryd.prog 12 #[x, y] w fun e w' => e = .returned (.bool true) ∧ Below w.heap.size w w' := by
  obtain ⟨A, c, rfl, hc⟩ := hx.form
  obtain ⟨B, d, rfl, hd⟩ := Els.form hy
  have HG := hid (And.intro hg hg.lt)
  have X := hid (And.intro hx hy)
  by_cases hbig : 400 < l.length
  · have hb1 : decide ((400 : Int) < (l.length : Int)) = true := by simp; omega
    clear hbig hg hx hc hy hd hfl
    go_enter Tryd.func12, Tryd.ntmps12
    go_wp2_with fail
    refine (jfirst_any _ HG.out.1).mono ?_
    rintro e w1 ⟨rfl, h1⟩
    have B1 := hid h1
    clear h1
    go_wp2_with fail
    refine (jfirst_any _ (HG.out.1.below B1.out HG.out.2)).mono ?_
    rintro e w2 ⟨rfl, h1⟩
    have B2 := hid h1
    clear h1
    go_wp2_with fail
    go_ret
    exact ⟨rfl, B1.out.trans (B2.out.mono B1.out.size)⟩
  · have hb1 : decide ((400 : Int) < (l.length : Int)) = false := by simp; omega
    have HL := hid (show l.length ≤ 400 ∧ f.length ≤ maxLen from ⟨by omega, hfl⟩)
    clear hbig hg hx hc hy hd hfl
    go_enter Tryd.func12, Tryd.ntmps12
    go_wp2_with fail
    refine (jfirst_any _ HG.out.1).mono ?_
    rintro e w1 ⟨rfl, h1⟩
    have B1 := hid h1
    clear h1
    go_wp2_with fail
    refine (jnew_any _).mono ?_
    rintro e w2 ⟨b1, m1, rfl, hj, hb, hlo, hlom⟩
    have Q2 := hid (show JW w b1 m1 jobZ w2 from ⟨hj, B1.out.trans (hb.mono B1.out.size), Nat.le_trans B1.out.size hlo, Nat.le_trans B1.out.size hlom⟩)
    have hXW := XW.new w2
    have Q3 := hid (show JW w b1 m1 jobZ _ ∧ XW w w2.heap.size jobZ _ from ⟨Q2.out.step hXW.bel, ⟨hXW.j, Q2.out.bel.trans (hXW.bel.mono Q2.out.bel.size), Q2.out.bel.size⟩⟩)
    have hD2 : w2.heap.size ≠ b1 ∧ w2.heap.size ≠ m1 := by
      have e7 := Q2.out.j.blk.lt
      have e8 := Q2.out.j.map.lt
      omega
    have D2 := hid hD2
    clear hj hb hlo hlom hXW hD2
    go_wp2_with fail
    generalize w2.heap.size = b2 at *
    go_loopg [7] l.length (fun k iv wr => ∃ (i : Nat) (s : JobS), i + k = l.length ∧ iv = .int .i64 i ∧ JF s ∧ JW w b1 m1 s wr ∧ XW w b2 s wr)
    case atStart => exact ⟨0, jobZ, by omega, rfl, JF.zero, Q3.out.1, Q3.out.2⟩
    case round =>
      obtain ⟨i, S, hi, rfl, hJF, hQ, hX⟩ := hrel
      by_cases hlt : i < l.length
      · obtain ⟨r, hr⟩ : ∃ r, l[i]? = some r := ⟨l[i], List.getElem?_eq_getElem hlt⟩
        have hJFa := hJF.apply r
        obtain ⟨b0, o0, rfl, hb0, hP⟩ := X.out.1.recP hr
        have k0 : (0 : Int) ≤ (i : Int) := by omega
        have k1 : (i : Int) < (l.length : Int) := by omega
        have d1 : decide ((i : Int) < (l.length : Int)) = true := by simp; omega
        have d2 : decide (i < l.length) = true := by simp; omega
        have hcase : (decide ((i : Int) < (f.length : Int)) = false) ∨ (∃ z, f[i]? = some z ∧ decide ((i : Int) < (f.length : Int)) = true ∧ decide (0 ≤ z) = false) ∨ (∃ z, f[i]? = some z ∧ decide ((i : Int) < (f.length : Int)) = true ∧ decide (0 ≤ z) = true) := by
          by_cases hf : i < f.length
          · have e := List.getElem?_eq_getElem hf
            have e2 : decide ((i : Int) < (f.length : Int)) = true := by simp; omega
            by_cases h0 : 0 ≤ f[i]
            · exact .inr (.inr ⟨f[i], e, e2, by simpa using h0⟩)
            · exact .inr (.inl ⟨f[i], e, e2, by simpa using h0⟩)
          · exact .inl (by simp; omega)
        have HC := hid hcase
        have PP := hid (And.intro hP hb0)
        have HJ := hid (And.intro hJF (And.intro hJFa (And.intro hi hlt)))
        have HA := hid (fun W (h : JobAt b1 m1 S W) => apply_any b1 m1 S r W h hJF.toJI)
        have HX := hid (fun W (h : XJ b2 S W) => rapply_any b2 S r W h hJF.toJI)
        have HPl := hid (fun W => plain_any r W)
        have HE := hid (fun W (hg : ErrT W) => err_same (applyNo S r) W hg)
        have Q0 := hid (And.intro hQ hX)
        have hl4 := HL.out.1
        clear hJF hJFa hi hlt hr hQ hX hP hb0 hcase
        obtain ⟨rk, r1, r2, r3, r4⟩ := r
        unfold RunRes RecS.val at HA
        unfold RAppRes RecS.val at HX
        unfold RecS.val at HPl
        dsimp only at HA HX HPl
        generalize hAN : applyNo S ⟨rk, r1, r2, r3, r4⟩ = an at *
        generalize hAJ : applyJ S ⟨rk, r1, r2, r3, r4⟩ = aj at *
        clear hAN hAJ
        go_wp2_with fail
        refine (jcopy_any b1 m1 S _ (by exact Q0.out.1.j)).mono ?_
        rintro e w3 ⟨b3, m3, rfl, hj3, hb3, hlo3, hlom3⟩
        have hDX : DX w b1 m1 b2 b3 m3 := ⟨by
          have q1 := Q0.out.1.j.blk.lt
          have q2 := Q0.out.1.j.map.lt
          have q3 := Q0.out.2.j.lt
          have q4 := D2.out
          have q5 := Q0.out.1.bel.size
          omega⟩
        have DD := hid hDX
        have P3 := hid (show PX w b1 m1 b2 b3 m3 S S S w3 from ⟨Q0.out.1.step hb3, Q0.out.2.step hb3, hj3⟩)
        have K3 := hid (PP.out.1.keep P3.out.j.bel PP.out.2)
        clear hj3 hb3 hlo3 hlom3 hDX
        obtain ⟨p0, p1, p2, p3, p4⟩ := K3.out
        dsimp only at p0 p1 p2 p3 p4
        go_wp2_with fail
        go_region_held_law (fun W => W.cell? ⟨b0, o0 + i * 5, none⟩ = some (.int .i64 rk) ∧ W.cell? ⟨b0, o0 + i * 5 + 1, none⟩ = some (.int .i64 r1) ∧ W.cell? ⟨b0, o0 + i * 5 + 2, none⟩ = some (.int .i64 r2) ∧ W.cell? ⟨b0, o0 + i * 5 + 3, none⟩ = some (.int .i64 r3) ∧ W.cell? ⟨b0, o0 + i * 5 + 4, none⟩ = some (.int .i64 r4))
          (first | exact K9.out | exact K8.out | exact K7.out | exact K6.out | exact K5.out | exact ⟨p0, p1, p2, p3, p4⟩)
          (first
            | (go_at_call 46
               have hN := P8.out
               refine (same_any b1 m1 b2 aj _ (by exact hN.j.j) (by exact hN.x.j) (by exact HJ.out.2.1.toJI)).mono ?_
               rintro e w9 ⟨rfl, hb⟩
               have P9 := hid (hN.step hb)
               have K9 := hid (PP.out.1.keep P9.out.j.bel PP.out.2)
               clear hb hN)
            | (go_at_call 23
               have hN := P7.out
               refine (HE.out _ (by exact HG.out.1.below hN.j.bel HG.out.2)).mono ?_
               rintro e w8 ⟨rfl, hb⟩
               have P8 := hid (hN.step hb)
               have K8 := hid (PP.out.1.keep P8.out.j.bel PP.out.2)
               clear hb hN)
            | (go_at_call 54
               have hN := P6.out
               refine (HX.out _ (by exact hN.x.j)).mono ?_
               rintro e w7 ⟨rfl, hx, ho⟩
               have P7 := hid (hN.runX DD.out hx ho)
               have K7 := hid (PP.out.1.keep P7.out.j.bel PP.out.2)
               clear hx ho hN)
            | (go_at_call 43
               have hN := P5.out
               refine (HPl.out _).mono ?_
               rintro e w6 ⟨rfl, hb⟩
               have P6 := hid (hN.step hb)
               have K6 := hid (PP.out.1.keep P6.out.j.bel PP.out.2)
               clear hb hN)
            | (go_at_call 48
               have hN := P3.out.step (Below.refl w3.heap.size w3).drew
               refine (HA.out _ (by exact hN.j.j)).mono ?_
               rintro e w5 ⟨rfl, hj, ho⟩
               have P5 := hid (hN.runJ DD.out hj ho)
               have K5 := hid (PP.out.1.keep P5.out.j.bel PP.out.2)
               clear hj ho hN)
            | fail)
        clear p0 p1 p2 p3 p4
        rcases HC.out with h1 | ⟨z, hz, h1, h2⟩ | ⟨z, hz, h1, h2⟩
        · skip
          have h9 : ¬ (i < f.length) := by simp only [decide_eq_false_iff_not] at h1; omega
          have h3 : decide (i < f.length) = false := decide_eq_false h9
          go_wp2_with fail
          refine (same_any b1 m1 b2 aj _ (by exact P9.out.j.j) (by exact P9.out.x.j) (by exact HJ.out.2.1.toJI)).mono ?_
          rintro e w10 ⟨rfl, hb⟩
          have P10 := hid (P9.out.step hb)
          clear hb
          go_wp2_with fail
          obtain ⟨_, hJ2, hi, hlt⟩ := HJ.out
          go_roundg (gk - 1)
          case measure => omega
          case rel => exact ⟨i + 1, aj, by omega, by go_num, hJ2, P10.out.j, P10.out.x⟩
        · skip
          obtain ⟨b4, o4, cs0, rfl, hb4, _, ⟨rfl, hzw⟩, hcell⟩ := Els.at_ X.out.2 hz
          have f0 := (P9.out.j.bel.cell (p := ⟨b4, o4 + i, none⟩) hb4).trans (by simpa using hcell 0 _ rfl)
          have k3 : (i : Int) < (f.length : Int) := by simpa using h1
          clear hz hzw hcell hb4
          go_wp2_with fail
          refine (same_any b1 m1 b2 aj _ (by exact P9.out.j.j) (by exact P9.out.x.j) (by exact HJ.out.2.1.toJI)).mono ?_
          rintro e w10 ⟨rfl, hb⟩
          have P10 := hid (P9.out.step hb)
          clear hb f0
          go_wp2_with fail
          obtain ⟨_, hJ2, hi, hlt⟩ := HJ.out
          go_roundg (gk - 1)
          case measure => omega
          case rel => exact ⟨i + 1, aj, by omega, by go_num, hJ2, P10.out.j, P10.out.x⟩
        · skip
          obtain ⟨b4, o4, cs0, rfl, hb4, _, ⟨rfl, hzw⟩, hcell⟩ := Els.at_ X.out.2 hz
          have C0 := hid (show w.cell? ⟨b4, o4 + i, none⟩ = some (.int .i64 z) by simpa using hcell 0 _ rfl)
          have f0 := (P9.out.j.bel.cell (p := ⟨b4, o4 + i, none⟩) hb4).trans C0.out
          have FF0 := hid (And.intro hb4 hzw)
          have k3 : (i : Int) < (f.length : Int) := by simpa using h1
          clear hz hzw hcell hb4
          go_wp2_with fail
          refine (forget_any b3 m3 S 0 _ (by exact P9.out.c) (by exact WalkArith.wf_i64 (by omega))).mono ?_
          rintro e w10 ⟨rfl, hj, ho⟩
          have P10 := hid (P9.out.runC DD.out hj ho)
          have f1 := (P10.out.j.bel.cell (p := ⟨b4, o4 + i, none⟩) FF0.out.1).trans C0.out
          clear hj ho f0
          go_wp2_with fail
          refine (forget_any b1 m1 aj z _ (by exact P10.out.j.j) (by exact FF0.out.2)).mono ?_
          rintro e w11 ⟨rfl, hj, ho⟩
          have P11 := hid (P10.out.runJ DD.out hj ho)
          have f2 := (P11.out.j.bel.cell (p := ⟨b4, o4 + i, none⟩) FF0.out.1).trans C0.out
          clear hj ho f1
          go_wp2_with fail
          refine (rforget_any b2 aj z _ (by exact P11.out.x.j) (by exact HJ.out.2.1.toJI)).mono ?_
          rintro e w12 ⟨rfl, hx, ho⟩
          have P12 := hid (P11.out.runX DD.out hx ho)
          have HJ3 := hid (HJ.out.2.1.forget z)
          clear hx ho f2
          generalize forgetJ aj z = fj at *
          go_wp2_with fail
          refine (same_any b1 m1 b2 fj _ (by exact P12.out.j.j) (by exact P12.out.x.j) (by exact HJ3.out.toJI)).mono ?_
          rintro e w13 ⟨rfl, hb⟩
          have P13 := hid (P12.out.step hb)
          clear hb
          go_wp2_with fail
          obtain ⟨_, hJ2, hi, hlt⟩ := HJ.out
          go_roundg (gk - 1)
          case measure => omega
          case rel => exact ⟨i + 1, fj, by omega, by go_num, HJ3.out, P13.out.j, P13.out.x⟩
      · obtain rfl : i = l.length := by omega
        have d1 : decide ((l.length : Int) < (l.length : Int)) = false := by simp
        have Q := hid hQ
        clear hQ hX hlt hi hJF
        go_wp2_with fail
        refine (jfirst_any _ (by exact HG.out.1.below Q.out.bel HG.out.2)).mono ?_
        rintro e w4 ⟨rfl, hb4⟩
        have B4 := hid (Q.out.bel.trans (hb4.mono Q.out.bel.size))
        clear hb4
        go_wp2_with fail
        go_ret
        exact ⟨rfl, B4.out⟩
end Go.Proofs.YtabklmkdneoaaaaDoor
