/- JobApart: the walk. -/
import Derived.Test.YtabklmkdneoaaaaDoorJobD
namespace Go.Proofs.YtabklmkdneoaaaaDoor
open Go.RowKit

theorem JF.replS (l : List RecS) : ∀ {s : JobS}, JF s → JF (replTo l s) := by
  induction l with
  | nil => intro s h; exact h
  | cons r l ih => intro s h; exact ih (h.apply r)
theorem repl_take {l : List RecS} {i : Nat} {r : RecS} (h : l[i]? = some r) (s : JobS) : replTo (l.take (i + 1)) s = applyJ (replTo (l.take i) s) r := by
  rw [List.take_add_one, h]
  exact repl_snoc _ _ _
/-- Another job is written. -/
theorem JW.other {w W W' : World} {b mb b' m' : Nat} {s : JobS} (h : JW w b mb s W) (ho : Only (JF2 b' m') W W') (hb : Below w.heap.size w W') (h1 : b ≠ b') (h2 : b ≠ m') (h3 : mb ≠ b') (h4 : mb ≠ m') : JW w b mb s W' :=
  ⟨h.j.keep ho (by unfold JF2; omega) (by unfold JF2; omega), hb, h.lo, h.lom⟩
theorem japart_big (A B : Option Addr) (n m c d : Nat) (k : Int) (w : World) (hg : ErrT w) (hs : 400 < n ∨ 400 < m) :
    Calls Tryd.prog 13 #[.slice A n c, .slice B m d, .int .i64 k] w fun e w' => e = .returned (.bool true) ∧ Below w.heap.size w w' := by
  have HG := hid (And.intro hg hg.lt)
  have hcase : decide ((400 : Int) < (n : Int)) = true ∨ (decide ((400 : Int) < (n : Int)) = false ∧ decide ((400 : Int) < (m : Int)) = true) := by
    simp only [decide_eq_true_eq, decide_eq_false_iff_not]
    omega
  clear hg hs
  rcases hcase with h1 | ⟨h1, h2⟩
  all_goals
    go_enter Tryd.func13, Tryd.ntmps13
    go_wp2_with fail
    refine (jfirst_any _ HG.out.1).mono ?_
    rintro e w1 ⟨rfl, h1⟩
    have B1 := hid h1
    clear h1
    go_wp2_with fail
    refine (jfirst_any _ (HG.out.1.below B1.out HG.out.2)).mono ?_
    rintro e w2 ⟨rfl, h1⟩
    have B2 := hid h1
    clear h1
    go_wp2_with fail
    go_ret
    exact ⟨rfl, B1.out.trans (B2.out.mono B1.out.size)⟩
/-- Three jobs. -/
structure J3 (w : World) (b1 m1 b2 m2 b3 m3 : Nat) (s t u : JobS) (W : World) : Prop where
  j : JW w b1 m1 s W
  c : JW w b2 m2 t W
  o : JW w b3 m3 u W
structure D3 (b1 m1 b2 m2 b3 m3 : Nat) : Prop where
  bb : b1 ≠ b2
  bm : b1 ≠ m2
  mb : m1 ≠ b2
  mm : m1 ≠ m2
  bb3 : b1 ≠ b3
  bm3 : b1 ≠ m3
  mb3 : m1 ≠ b3
  mm3 : m1 ≠ m3
  cb : b2 ≠ b3
  cm : b2 ≠ m3
  db : m2 ≠ b3
  dm : m2 ≠ m3
section
variable {w W W' : World} {b1 m1 b2 m2 b3 m3 : Nat} {s s' t t' u : JobS}
theorem J3.step (h : J3 w b1 m1 b2 m2 b3 m3 s t u W) (hb : Below W.heap.size W W') : J3 w b1 m1 b2 m2 b3 m3 s t u W' := ⟨h.j.step hb, h.c.step hb, h.o.step hb⟩
theorem J3.atJ (h : J3 w b1 m1 b2 m2 b3 m3 s t u W) (D : D3 b1 m1 b2 m2 b3 m3) (hj : JobAt b1 m1 s' W') (ho : Only (JF2 b1 m1) W W') : J3 w b1 m1 b2 m2 b3 m3 s' t u W' := by
  have h1 := h.j.only hj ho
  exact ⟨h1, h.c.other ho h1.bel D.bb.symm D.mb.symm D.bm.symm D.mm.symm, h.o.other ho h1.bel D.bb3.symm D.mb3.symm D.bm3.symm D.mm3.symm⟩
theorem J3.atC (h : J3 w b1 m1 b2 m2 b3 m3 s t u W) (D : D3 b1 m1 b2 m2 b3 m3) (hj : JobAt b2 m2 t' W') (ho : Only (JF2 b2 m2) W W') : J3 w b1 m1 b2 m2 b3 m3 s t' u W' := by
  have h1 := h.c.only hj ho
  exact ⟨h.j.other ho h1.bel D.bb D.bm D.mb D.mm, h1, h.o.other ho h1.bel D.cb.symm D.db.symm D.cm.symm D.dm.symm⟩
end
set_option maxRecDepth 100000 in
set_option maxHeartbeats 8000000 in
theorem japart_walk (x y : Value) (l m : List RecS) (n : Int) (w : World) (hx : RdR w x l) (_ : l.length ≤ maxLen) (hy : RdR w y m) (_ : m.length ≤ maxLen) (hn : (Lit.int .i64 n).wf = true) (hg : ErrT w) :
    Calls Tryd.prog 13 #[x, y, .int .i64 n] w fun e w' => e = .returned (.bool true) ∧ Below w.heap.size w w' := by
  obtain ⟨A, c, rfl, hc⟩ := hx.form
  obtain ⟨B, d, rfl, hd⟩ := hy.form
  by_cases hbig : 400 < l.length ∨ 400 < m.length
  · exact japart_big A B l.length m.length c d n w hg hbig
  · have hb1 : decide ((400 : Int) < (l.length : Int)) = false := by simp; omega
    have hb2 : decide ((400 : Int) < (m.length : Int)) = false := by simp; omega
    have HL := hid (show l.length ≤ 400 ∧ m.length ≤ 400 by omega)
    have HG := hid (And.intro hg hg.lt)
    have X := hid (And.intro hx hy)
    have HN := hid hn
    clear hbig hg hx hc hy hd hn
    go_enter Tryd.func13, Tryd.ntmps13
    go_wp2_with fail
    refine (jfirst_any _ HG.out.1).mono ?_
    rintro e w1 ⟨rfl, h1⟩
    have B1 := hid h1
    clear h1
    go_wp2_with fail
    refine (jnew_any _).mono ?_
    rintro e w2 ⟨b1, m1, rfl, hj, hb, hlo, hlom⟩
    have Q2 := hid (show JW w b1 m1 jobZ w2 from ⟨hj, B1.out.trans (hb.mono B1.out.size), Nat.le_trans B1.out.size hlo, Nat.le_trans B1.out.size hlom⟩)
    clear hj hb hlo hlom
    go_wp2_with fail
    go_loopg [8] l.length (fun k iv wr => ∃ i : Nat, i + k = l.length ∧ iv = .int .i64 i ∧ JW w b1 m1 (replTo (l.take i) jobZ) wr)
    case atStart => exact ⟨0, by omega, rfl, Q2.out⟩
    case round =>
      obtain ⟨i, hi, rfl, hQ⟩ := hrel
      by_cases hlt : i < l.length
      · obtain ⟨r, hr⟩ : ∃ r, l[i]? = some r := ⟨l[i], List.getElem?_eq_getElem hlt⟩
        have hsn := repl_take hr jobZ
        have hJF := JF.repl (l.take i)
        obtain ⟨b0, o0, rfl, _, p0, p1, p2, p3, p4⟩ := (X.out.1.below hQ.bel).at_ hr
        have k0 : (0 : Int) ≤ (i : Int) := by omega
        have k1 : (i : Int) < (l.length : Int) := by omega
        have Q := hid hQ
        have HA := hid (fun W (h : JobAt b1 m1 (replTo (l.take i) jobZ) W) => apply_any b1 m1 _ r W h hJF.toJI)
        have HT := hid (And.intro hi hsn)
        have hl4 := HL.out.1
        clear hQ hi hlt hr hsn hJF
        obtain ⟨rk, r1, r2, r3, r4⟩ := r
        dsimp only at p0 p1 p2 p3 p4
        unfold RunRes RecS.val at HA
        dsimp only at HA
        go_wp2_with fail
        refine (HA.out _ (by exact Q.out.j)).mono ?_
        rintro e w3 ⟨rfl, hj, ho⟩
        have Q3 := hid (Q.out.only hj ho)
        clear hj ho p0 p1 p2 p3 p4
        go_wp2_with fail
        obtain ⟨hi, hsn⟩ := HT.out
        go_roundg (gk - 1)
        case measure => omega
        case rel => exact ⟨i + 1, by omega, by go_num, by rw [hsn]; exact Q3.out⟩
      · have hge : l.length ≤ i := by omega
        have hnn : decide ((i : Int) < (l.length : Int)) = false := by simp; omega
        have hJF := JF.repl (l.take i)
        generalize replTo (l.take i) jobZ = s0 at *
        have Q := hid (And.intro hQ hJF)
        clear hQ hJF
        go_wp2_with fail
        refine (jcopy_any b1 m1 s0 _ (by exact Q.out.1.j)).mono ?_
        rintro e w4 ⟨b2, m2, rfl, hj2, hb2', hlo2, hlom2⟩
        have hlt1 := Q.out.1.j.blk.lt
        have hlt2 := Q.out.1.j.map.lt
        have S1 := hid (And.intro hlt1 (And.intro hlt2 (And.intro hlo2 hlom2)))
        have Q4 := hid (And.intro (Q.out.1.step hb2') (show JW w b2 m2 s0 w4 from ⟨hj2, Q.out.1.bel.trans (hb2'.mono Q.out.1.bel.size), Nat.le_trans Q.out.1.bel.size hlo2, Nat.le_trans Q.out.1.bel.size hlom2⟩))
        clear hj2 hb2' hlo2 hlom2 hlt1 hlt2
        go_wp2_with fail
        refine (jcopy_any b1 m1 s0 _ (by exact Q4.out.1.j)).mono ?_
        rintro e w5 ⟨b3, m3, rfl, hj3, hb3, hlo3, hlom3⟩
        have hD : D3 b1 m1 b2 m2 b3 m3 := by
          obtain ⟨e1, e2, e3, e4⟩ := S1.out
          have e5 := Q4.out.2.j.blk.lt
          have e6 := Q4.out.2.j.map.lt
          have e7 := Q4.out.1.j.blk.lt
          have e8 := Q4.out.1.j.map.lt
          constructor <;> omega
        have DD := hid hD
        have T5 := hid (show J3 w b1 m1 b2 m2 b3 m3 s0 s0 s0 w5 from ⟨Q4.out.1.step hb3, Q4.out.2.step hb3, ⟨hj3, Q4.out.1.bel.trans (hb3.mono Q4.out.1.bel.size), Nat.le_trans Q4.out.1.bel.size hlo3, Nat.le_trans Q4.out.1.bel.size hlom3⟩⟩)
        clear hj3 hb3 hlo3 hlom3 hD
        go_wp2_with fail
        refine (forget_any b2 m2 s0 n _ (by exact T5.out.c.j) HN.out).mono ?_
        rintro e w6 ⟨rfl, hj, ho⟩
        have T6 := hid (T5.out.atC DD.out hj ho)
        have JFF := hid (Q.out.2.forget n)
        clear hj ho
        generalize hf0 : forgetJ s0 n = f0 at *
        have HF0 := hid hf0
        clear hf0
        go_wp2_with fail
        go_loopg [11] m.length (fun k iv wr => ∃ i : Nat, i + k = m.length ∧ iv = .int .i64 i ∧ J3 w b1 m1 b2 m2 b3 m3 s0 (replTo (m.take i) f0) s0 wr)
        case atStart => exact ⟨0, by omega, rfl, T6.out⟩
        case round =>
          obtain ⟨i, hi, rfl, hT⟩ := hrel
          by_cases hlt : i < m.length
          · obtain ⟨r, hr⟩ : ∃ r, m[i]? = some r := ⟨m[i], List.getElem?_eq_getElem hlt⟩
            have hsn := repl_take hr f0
            have hJF := JF.replS (m.take i) JFF.out
            obtain ⟨b0, o0, rfl, _, p0, p1, p2, p3, p4⟩ := (X.out.2.below hT.j.bel).at_ hr
            have k0 : (0 : Int) ≤ (i : Int) := by omega
            have k1 : (i : Int) < (m.length : Int) := by omega
            have T := hid hT
            have HA := hid (fun W (h : JobAt b2 m2 (replTo (m.take i) f0) W) => apply_any b2 m2 _ r W h hJF.toJI)
            have HT := hid (And.intro hi hsn)
            have hl4 := HL.out.2
            clear hT hi hlt hr hsn hJF
            obtain ⟨rk, r1, r2, r3, r4⟩ := r
            dsimp only at p0 p1 p2 p3 p4
            unfold RunRes RecS.val at HA
            dsimp only at HA
            go_wp2_with fail
            refine (HA.out _ (by exact T.out.c.j)).mono ?_
            rintro e w7 ⟨rfl, hj, ho⟩
            have T7 := hid (T.out.atC DD.out hj ho)
            clear hj ho p0 p1 p2 p3 p4
            go_wp2_with fail
            obtain ⟨hi, hsn⟩ := HT.out
            go_roundg (gk - 1)
            case measure => omega
            case rel => exact ⟨i + 1, by omega, by go_num, by rw [hsn]; exact T7.out⟩
          · obtain rfl : i = m.length := by omega
            have hnn2 : decide ((m.length : Int) < (m.length : Int)) = false := by simp
            have T := hid hT
            clear hT
            rw [List.take_length] at T
            go_wp2_with fail
            refine (alike_any b1 m1 b3 m3 s0 _ (by exact T.out.j.j) (by exact T.out.o.j) Q.out.2.toJI).mono ?_
            rintro e w8 ⟨rfl, hb⟩
            have T8 := hid (T.out.step hb)
            clear hb
            go_wp2_with fail
            refine (forget_any b1 m1 s0 n _ (by exact T8.out.j.j) HN.out).mono ?_
            rintro e w9 ⟨rfl, hj, ho⟩
            rw [HF0.out] at hj
            have T9 := hid (T8.out.atJ DD.out hj ho)
            clear hj ho
            go_wp2_with fail
            go_loopg [12] m.length (fun k iv wr => ∃ i : Nat, i + k = m.length ∧ iv = .int .i64 i ∧ J3 w b1 m1 b2 m2 b3 m3 (replTo (m.take i) f0) (replTo m f0) s0 wr)
            case atStart => exact ⟨0, by omega, rfl, T9.out⟩
            case round =>
              obtain ⟨i, hi, rfl, hT⟩ := hrel
              by_cases hlt : i < m.length
              · obtain ⟨r, hr⟩ : ∃ r, m[i]? = some r := ⟨m[i], List.getElem?_eq_getElem hlt⟩
                have hsn := repl_take hr f0
                have hJF := JF.replS (m.take i) JFF.out
                obtain ⟨b0, o0, rfl, _, p0, p1, p2, p3, p4⟩ := (X.out.2.below hT.j.bel).at_ hr
                have k0 : (0 : Int) ≤ (i : Int) := by omega
                have k1 : (i : Int) < (m.length : Int) := by omega
                have T := hid hT
                have HA := hid (fun W (h : JobAt b1 m1 (replTo (m.take i) f0) W) => apply_any b1 m1 _ r W h hJF.toJI)
                have HT := hid (And.intro hi hsn)
                have hl4 := HL.out.2
                clear hT hi hlt hr hsn hJF
                obtain ⟨rk, r1, r2, r3, r4⟩ := r
                dsimp only at p0 p1 p2 p3 p4
                unfold RunRes RecS.val at HA
                dsimp only at HA
                go_wp2_with fail
                refine (HA.out _ (by exact T.out.j.j)).mono ?_
                rintro e w10 ⟨rfl, hj, ho⟩
                have T10 := hid (T.out.atJ DD.out hj ho)
                clear hj ho p0 p1 p2 p3 p4
                go_wp2_with fail
                obtain ⟨hi, hsn⟩ := HT.out
                go_roundg (gk - 1)
                case measure => omega
                case rel => exact ⟨i + 1, by omega, by go_num, by rw [hsn]; exact T10.out⟩
              · obtain rfl : i = m.length := by omega
                have hnn3 : decide ((m.length : Int) < (m.length : Int)) = false := by simp
                have T := hid hT
                clear hT
                rw [List.take_length] at T
                have hJF := JF.replS m JFF.out
                have HJ := hid hJF
                clear hJF
                go_wp2_with fail
                refine (jfirst_any _ (HG.out.1.below T.out.j.bel HG.out.2)).mono ?_
                rintro e w11 ⟨rfl, hb⟩
                have T11 := hid (T.out.step hb)
                clear hb
                go_wp2_with fail
                refine (alike_any b1 m1 b2 m2 _ _ (by exact T11.out.j.j) (by exact T11.out.c.j) HJ.out.toJI).mono ?_
                rintro e w12 ⟨rfl, hb⟩
                have T12 := hid (T11.out.step hb)
                clear hb
                go_wp2_with fail
                go_ret
                exact ⟨rfl, T12.out.j.bel⟩
end Go.Proofs.YtabklmkdneoaaaaDoor
