/- JobStays: the walk. -/
import Derived.Test.YtabklmkdneoaaaaDoorLawJApart
namespace Go.Proofs.YtabklmkdneoaaaaDoor
open Go.RowKit

/-- The records that are taken. -/
def takenL : List RecS → JobS → List RecS
  | [], _ => []
  | r :: l, s => (if applyNo s r = 0 then [r] else []) ++ takenL l (applyJ s r)
theorem taken_snoc (l : List RecS) (r : RecS) : ∀ s, takenL (l ++ [r]) s = takenL l s ++ (if applyNo (replTo l s) r = 0 then [r] else []) := by
  induction l with
  | nil =>
    intro s
    show (if applyNo s r = 0 then [r] else []) ++ [] = [] ++ (if applyNo s r = 0 then [r] else [])
    simp
  | cons a l ih =>
    intro s
    show (if applyNo s a = 0 then [a] else []) ++ takenL (l ++ [r]) (applyJ s a) = ((if applyNo s a = 0 then [a] else []) ++ takenL l (applyJ s a)) ++ (if applyNo (replTo l (applyJ s a)) r = 0 then [r] else [])
    rw [ih, List.append_assoc]
theorem taken_len (l : List RecS) : ∀ s, (takenL l s).length ≤ l.length := by
  induction l with
  | nil => intro s; exact Nat.le_refl _
  | cons a l ih => intro s; have := ih (applyJ s a); unfold takenL; split <;> simp <;> omega
theorem taken_repl (l : List RecS) : ∀ s, replTo (takenL l s) s = replTo l s := by
  induction l with
  | nil => intro s; rfl
  | cons a l ih =>
    intro s
    unfold takenL
    by_cases h : applyNo s a = 0
    · rw [if_pos h]
      exact ih _
    · rw [if_neg h]
      have := ih (applyJ s a)
      rw [apply_refused h] at this ⊢
      show replTo (takenL l s) s = replTo l (applyJ s a)
      rw [apply_refused h]
      exact this
theorem taken_all (l : List RecS) : ∀ s k r, (takenL l s)[k]? = some r → applyNo (replTo ((takenL l s).take k) s) r = 0 := by
  induction l with
  | nil => intro s k r h; simp [takenL] at h
  | cons a l ih =>
    intro s k r
    unfold takenL
    by_cases h : applyNo s a = 0
    · rw [if_pos h]
      intro hr
      cases k with
      | zero =>
        have hr' : a = r := by simpa using hr
        subst hr'
        exact h
      | succ k => exact ih _ k r (by simpa using hr)
    · rw [if_neg h, apply_refused h]
      exact ih s k r
theorem apply_over {s : JobS} {r : RecS} (h : 2 ≤ s.st) : applyNo s r ≠ 0 := by
  unfold applyNo
  split
  · decide
  · rw [if_neg (by omega), if_pos (by omega)]
    decide
theorem apply_st {s : JobS} (hi : JI s) (r : RecS) : s.st ≤ (applyJ s r).st := by
  have h0 := hi.st0
  have h3 := hi.st1
  unfold applyJ
  split
  · exact Int.le_refl _
  · split
    · show s.st ≤ 1; omega
    · split
      · exact Int.le_refl _
      · rename_i h1 h2
        have hst : s.st = 1 := by omega
        unfold runJ
        split
        · exact Int.le_refl _
        · split
          · exact Int.le_refl _
          · split
            · show s.st ≤ 2; omega
            · show s.st ≤ 3; omega
theorem apply_done {s : JobS} (hi : JF s) (r : RecS) (n : Nat) (hn : n < 16) (h : (dAt s.d (n : Int)).isSome = true) : (dAt (applyJ s r).d (n : Int)).isSome = true := by
  unfold applyJ
  split
  · exact h
  · split
    · exact h
    · split
      · exact h
      · unfold runJ
        split
        · exact h
        · split
          · show (dAt (s.d.set r.num.toNat (some r)) (n : Int)).isSome = true
            by_cases e : (n : Int) = r.num.toNat
            · rw [e, dAt_set_same _ _ _ (by have := hi.len; omega)]
              rfl
            · rw [dAt_set_other _ _ _ _ e]
              exact h
          · split
            · exact h
            · exact h
/-- What JobStays holds in its loop. -/
structure SG (w : World) (B b1 m1 : Nat) (dv : Value) (s : JobS) (ds : List RecS) (W : World) : Prop where
  j : JW w b1 m1 s W
  row : W.ownsRow B 73 5 dv ds.length (recCells ds)
  hB : B ≤ W.heap.size
section
variable {w W W' : World} {B b1 m1 : Nat} {dv : Value} {s s' : JobS} {ds : List RecS}
theorem SG.step (h : SG w B b1 m1 dv s ds W) (hb : Below W.heap.size W W') : SG w B b1 m1 dv s ds W' := ⟨h.j.step hb, own_below h.row hb, Nat.le_trans h.hB hb.size⟩
theorem SG.run (h : SG w B b1 m1 dv s ds W) (h1 : b1 < B) (h2 : m1 < B) (hj : JobAt b1 m1 s' W') (ho : Only (JF2 b1 m1) W W') : SG w B b1 m1 dv s' ds W' :=
  ⟨h.j.only hj ho, own_keep2 h.row ho (fun k hk e => by have := (h.row.lt k hk).1; unfold JF2 at e; omega), Nat.le_trans h.hB ho.size⟩
end
/-- A record's cells. -/
def RecJ (W : World) (b o : Nat) (r : RecS) : Prop :=
  W.cell? ⟨b, o, none⟩ = some (.int .i64 r.kind) ∧ W.cell? ⟨b, o + 1, none⟩ = some (.int .i64 r.sum) ∧ W.cell? ⟨b, o + 2, none⟩ = some (.int .i64 r.num) ∧ W.cell? ⟨b, o + 3, none⟩ = some (.int .i64 r.len) ∧ W.cell? ⟨b, o + 4, none⟩ = some (.int .i64 r.code)
theorem RecJ.keep {W W' : World} {b o : Nat} {r : RecS} (h : RecJ W b o r) (hb : Below W.heap.size W W') : RecJ W' b o r :=
  ⟨cell_keep hb h.1, cell_keep hb h.2.1, cell_keep hb h.2.2.1, cell_keep hb h.2.2.2.1, cell_keep hb h.2.2.2.2⟩
theorem RdR.recJ {W : World} {A : Option Addr} {n c : Nat} {rs : List RecS} (h : RdR W (.slice A n c) rs) {i : Nat} {r : RecS} (hr : rs[i]? = some r) : ∃ b off, A = some ⟨b, off, none⟩ ∧ b < W.heap.size ∧ RecJ W b (off + i * 5) r := by
  obtain ⟨b, off, e, hb, h0, h1, h2, h3, h4⟩ := h.at_ hr
  exact ⟨b, off, e, hb, h0, h1, h2, h3, h4⟩
set_option maxRecDepth 100000 in
set_option maxHeartbeats 8000000 in
theorem jstays_walk (x : Value) (l : List RecS) (w : World) (hx : RdR w x l) (_ : l.length ≤ maxLen) (hg : ErrT w) :
    Calls Tryd.prog 14 #[x] w fun e w' => e = .returned (.bool true) ∧ Below w.heap.size w w' := by
  obtain ⟨A, c, rfl, hc⟩ := hx.form
  have HG := hid (And.intro hg hg.lt)
  have X := hid hx
  by_cases hbig : 400 < l.length
  · have hb1 : decide ((400 : Int) < (l.length : Int)) = true := by simp; omega
    clear hbig hg hx hc
    go_enter Tryd.func14, Tryd.ntmps14
    go_wp2_with fail
    refine (jfirst_any _ HG.out.1).mono ?_
    rintro e w1 ⟨rfl, h1⟩
    have B1 := hid h1
    clear h1
    go_wp2_with fail
    refine (jfirst_any _ (HG.out.1.below B1.out HG.out.2)).mono ?_
    rintro e w2 ⟨rfl, h1⟩
    have B2 := hid h1
    clear h1
    go_wp2_with fail
    go_ret
    exact ⟨rfl, B1.out.trans (B2.out.mono B1.out.size)⟩
  · have hb1 : decide ((400 : Int) < (l.length : Int)) = false := by simp; omega
    have HL := hid (show l.length ≤ 400 by omega)
    obtain ⟨i0, hi0, hz0, hz1, hz2⟩ := info_parts info_rec
    have IP := hid (And.intro hi0 (And.intro hz0 (And.intro hz1 hz2)))
    clear hbig hg hx hc hi0 hz0 hz1 hz2
    go_enter Tryd.func14, Tryd.ntmps14
    go_wp2_with fail
    refine (jfirst_any _ HG.out.1).mono ?_
    rintro e w1 ⟨rfl, h1⟩
    have B1 := hid h1
    clear h1
    go_wp2_with fail
    refine (jnew_any _).mono ?_
    rintro e w2 ⟨b1, m1, rfl, hj, hb, hlo, hlom⟩
    have Q2 := hid (show SG w w2.heap.size b1 m1 (.slice none 0 0) jobZ [] w2 from ⟨⟨hj, B1.out.trans (hb.mono B1.out.size), Nat.le_trans B1.out.size hlo, Nat.le_trans B1.out.size hlom⟩, World.ownsRow_nil _ _ _ _, Nat.le_refl _⟩)
    have LT := hid (And.intro hj.blk.lt hj.map.lt)
    clear hj hb hlo hlom
    go_wp2_with fail
    go_loopg [4, 5] l.length (fun k dv iv wr => ∃ i : Nat, i + k = l.length ∧ iv = .int .i64 i ∧ SG w w2.heap.size b1 m1 dv (replTo (l.take i) jobZ) (takenL (l.take i) jobZ) wr)
    case atStart => exact ⟨0, by omega, rfl, Q2.out⟩
    case round =>
      obtain ⟨i, hi, rfl, hQ⟩ := hrel
      by_cases hlt : i < l.length
      · obtain ⟨r, hr⟩ : ∃ r, l[i]? = some r := ⟨l[i], List.getElem?_eq_getElem hlt⟩
        have hsn := repl_take hr jobZ
        have htk : takenL (l.take (i + 1)) jobZ = takenL (l.take i) jobZ ++ (if applyNo (replTo (l.take i) jobZ) r = 0 then [r] else []) := by
          rw [List.take_add_one, hr]
          exact taken_snoc _ _ _
        have htl := taken_len (l.take i) jobZ
        rw [List.length_take] at htl
        have hJF := JF.repl (l.take i)
        have hJF2 := hJF.apply r
        obtain ⟨b0, o0, rfl, hb0, hp0⟩ := X.out.recJ hr
        have P0 := hid hp0
        have k0 : (0 : Int) ≤ (i : Int) := by omega
        have k1 : (i : Int) < (l.length : Int) := by omega
        have hl4 := HL.out
        have hst := apply_st hJF.toJI r
        have hov : 2 ≤ (replTo (l.take i) jobZ).st → applyNo (replTo (l.take i) jobZ) r ≠ 0 := apply_over
        have href := apply_refused (s := replTo (l.take i) jobZ) (r := r)
        have hdn := apply_done hJF r
        have hrc := recCells_snoc (takenL (l.take i) jobZ) r
        have HA := hid (fun W (h : JobAt b1 m1 (replTo (l.take i) jobZ) W) => apply_any b1 m1 _ r W h hJF.toJI)
        generalize replTo (l.take i) jobZ = S at *
        generalize takenL (l.take i) jobZ = ds at *
        generalize applyNo S r = an at *
        generalize applyJ S r = S' at *
        have Q := hid hQ
        obtain ⟨rk, r1, r2, r3, r4⟩ := r
        have FF := hid (And.intro hi (And.intro htl (And.intro hJF (And.intro hJF2 (And.intro hdn hrc)))))
        have HS := hid (And.intro hsn htk)
        unfold RunRes RecS.val at HA
        dsimp only at HA
        obtain ⟨gk0, hgk0⟩ : ∃ g, g = gk := ⟨gk, rfl⟩
        subst hgk0
        have hcase : (an ≠ 0 ∧ S = S' ∧ 2 ≤ S.st) ∨ (an ≠ 0 ∧ S = S' ∧ ¬ 2 ≤ S.st) ∨ (an = 0 ∧ ¬ 2 ≤ S.st) := by
          by_cases h0 : an = 0
          · exact .inr (.inr ⟨h0, fun h => hov h h0⟩)
          · by_cases h2 : 2 ≤ S.st
            · exact .inl ⟨h0, (href h0).symm, h2⟩
            · exact .inr (.inl ⟨h0, (href h0).symm, h2⟩)
        clear hQ hi hlt hr hsn htk htl hJF hJF2 hb0 hp0 hov href hdn hrc
        rcases hcase with ⟨h0, rfl, h2⟩ | ⟨h0, rfl, h2⟩ | ⟨h0, h2⟩
        · skip
          have hcv : codeV an = .iface 29 (.int .i64 an) := by unfold codeV; rw [if_neg h0]
          rw [hcv] at HA
          have H0 := hid h0
          clear hcv h0
          have d0 : decide (S.st < S.st) = false := by simp
          have d2 : decide (2 ≤ S.st) = true := by simp; omega
          clear h2 hst
          go_wp2_with fail
          refine (jcopy_any b1 m1 S _ (by exact Q.out.j.j)).mono ?_
          rintro e w3 ⟨b2, m2, rfl, hj2, hb3, hlo2, hlom2⟩
          have hD : b2 ≠ b1 ∧ b2 ≠ m1 ∧ m2 ≠ b1 ∧ m2 ≠ m1 := by
            have e7 := Q.out.j.j.blk.lt
            have e8 := Q.out.j.j.map.lt
            omega
          have DD := hid hD
          have Q3 := hid (Q.out.step hb3)
          have C3 := hid (show JW w b2 m2 S w3 from ⟨hj2, Q3.out.j.bel, Nat.le_trans Q.out.j.bel.size hlo2, Nat.le_trans Q.out.j.bel.size hlom2⟩)
          clear hj2 hb3 hlo2 hlom2 hD
          obtain ⟨p0, p1, p2, p3, p4⟩ := P0.out.keep Q3.out.j.bel
          dsimp only at p0 p1 p2 p3 p4
          go_wp2_with fail
          refine (HA.out _ (by exact Q3.out.j.j)).mono ?_
          rintro e w4 ⟨rfl, hj, ho⟩
          have Q4 := hid (Q3.out.run LT.out.1 LT.out.2 hj ho)
          have C4 := hid (C3.out.other ho Q4.out.j.bel DD.out.1 DD.out.2.1 DD.out.2.2.1 DD.out.2.2.2)
          clear hj ho p0 p1 p2 p3 p4
          go_wp2_with fail
          refine (alike_any b2 m2 b1 m1 S _ (by exact C4.out.j) (by exact Q4.out.j.j) FF.out.2.2.1.toJI).mono ?_
          rintro e w5 ⟨rfl, hb⟩
          have Q5 := hid (Q4.out.step hb)
          have C5 := hid (C4.out.step hb)
          clear hb
          go_wp2_with fail
          refine (state_any b2 m2 S _ (by exact C5.out.j)).mono ?_
          rintro e wz ⟨rfl, rfl⟩
          go_wp2_with fail
          refine (alike_any b2 m2 b1 m1 S _ (by exact C5.out.j) (by exact Q5.out.j.j) FF.out.2.2.1.toJI).mono ?_
          rintro e w6 ⟨rfl, hb⟩
          have Q6 := hid (Q5.out.step hb)
          have C6 := hid (C5.out.step hb)
          clear hb
          go_wp2_with fail
          refine (state_any b2 m2 S _ (by exact C6.out.j)).mono ?_
          rintro e wz ⟨rfl, rfl⟩
          go_wp2_with fail
          refine (state_any b1 m1 S _ (by exact Q6.out.j.j)).mono ?_
          rintro e wz ⟨rfl, rfl⟩
          go_wp2_with fail
          go_loopg [8] 16 (fun k iv wr => ∃ n : Nat, n + k = 16 ∧ iv = .int .i64 n ∧ Below wz.heap.size wz wr)
          case atStart => exact ⟨0, by omega, rfl, Below.refl _ _⟩
          case round =>
            obtain ⟨n, hnk, rfl, hb⟩ := hrel
            by_cases hn16 : n < 16
            · have e1 : decide ((n : Int) < 16) = true := by simp; omega
              have QQ := hid (Q6.out.step hb)
              have CC := hid (C6.out.step hb)
              have HB := hid (And.intro hnk (And.intro hn16 hb))
              have HD1 := hid (fun W (hJ : JobAt b2 m2 S W) => done_any b2 m2 S (n : Int) W hJ (wf_nat16 n hn16))
              have HD2 := hid (fun W (hJ : JobAt b1 m1 S W) => done_any b1 m1 S (n : Int) W hJ (wf_nat16 n hn16))
              have hq : (dAt S.d (n : Int)).isSome = true → (dAt S.d (n : Int)).isSome = true := FF.out.2.2.2.2.1 n hn16
              generalize (dAt S.d (n : Int)).getD recZ = ra at *
              generalize (dAt S.d (n : Int)).isSome = qa at *
              obtain ⟨a0, a1, a2, a3, a4⟩ := ra
              unfold RecS.val at HD1 HD2
              dsimp only at HD1 HD2
              have hqq : (qa = false) ∨ (qa = true) := by cases qa <;> simp
              clear hnk hb hq
              rcases hqq with rfl | rfl
              all_goals
                go_wp2_with fail
                refine (HD1.out _ (by exact CC.out.j)).mono ?_
                rintro e x2 ⟨rfl, hb2⟩
                have hba : Below x2.heap.size x2 (x2.alloc (.cells #[.int .i64 a0, .int .i64 a1, .int .i64 a2, .int .i64 a3, .int .i64 a4] 73)) := (Below.refl _ _).alloc (Nat.le_refl _) _
                have QQ2 := hid ((QQ.out.step hb2).step hba)
                have BB2 := hid (HB.out.2.2.trans ((hb2.trans (hba.mono hb2.size)).mono HB.out.2.2.size))
                clear hb2 hba
                go_wp2_with fail
                refine (HD2.out _ (by exact QQ2.out.j.j)).mono ?_
                rintro e x3 ⟨rfl, hb2⟩
                have hba : Below x3.heap.size x3 (x3.alloc (.cells #[.int .i64 a0, .int .i64 a1, .int .i64 a2, .int .i64 a3, .int .i64 a4] 73)) := (Below.refl _ _).alloc (Nat.le_refl _) _
                have BB3 := hid (BB2.out.trans ((hb2.trans (hba.mono hb2.size)).mono BB2.out.size))
                clear hb2 hba
                go_wp2_with fail
                obtain ⟨hnk, _, _⟩ := HB.out
                go_roundg (gk - 1)
                case measure => omega
                case rel => exact ⟨n + 1, by omega, by go_num, BB3.out⟩
            · have e1 : decide ((n : Int) < 16) = false := by simp; omega
              have QQ := hid (Q6.out.step hb)
              clear hb
              go_wp2_with fail
              obtain ⟨hi, _⟩ := FF.out
              go_roundg (gk0 - 1)
              case measure => omega
              case rel =>
                refine ⟨i + 1, by omega, by go_num, ?_⟩
                rw [HS.out.1, HS.out.2, if_neg H0.out, List.append_nil]
                exact QQ.out
        · skip
          have hcv : codeV an = .iface 29 (.int .i64 an) := by unfold codeV; rw [if_neg h0]
          rw [hcv] at HA
          have H0 := hid h0
          clear hcv h0
          have d0 : decide (S.st < S.st) = false := by simp
          have d2 : decide (2 ≤ S.st) = false := by simp; omega
          clear h2 hst
          go_wp2_with fail
          refine (jcopy_any b1 m1 S _ (by exact Q.out.j.j)).mono ?_
          rintro e w3 ⟨b2, m2, rfl, hj2, hb3, hlo2, hlom2⟩
          have hD : b2 ≠ b1 ∧ b2 ≠ m1 ∧ m2 ≠ b1 ∧ m2 ≠ m1 := by
            have e7 := Q.out.j.j.blk.lt
            have e8 := Q.out.j.j.map.lt
            omega
          have DD := hid hD
          have Q3 := hid (Q.out.step hb3)
          have C3 := hid (show JW w b2 m2 S w3 from ⟨hj2, Q3.out.j.bel, Nat.le_trans Q.out.j.bel.size hlo2, Nat.le_trans Q.out.j.bel.size hlom2⟩)
          clear hj2 hb3 hlo2 hlom2 hD
          obtain ⟨p0, p1, p2, p3, p4⟩ := P0.out.keep Q3.out.j.bel
          dsimp only at p0 p1 p2 p3 p4
          go_wp2_with fail
          refine (HA.out _ (by exact Q3.out.j.j)).mono ?_
          rintro e w4 ⟨rfl, hj, ho⟩
          have Q4 := hid (Q3.out.run LT.out.1 LT.out.2 hj ho)
          have C4 := hid (C3.out.other ho Q4.out.j.bel DD.out.1 DD.out.2.1 DD.out.2.2.1 DD.out.2.2.2)
          clear hj ho p0 p1 p2 p3 p4
          go_wp2_with fail
          refine (alike_any b2 m2 b1 m1 S _ (by exact C4.out.j) (by exact Q4.out.j.j) FF.out.2.2.1.toJI).mono ?_
          rintro e w5 ⟨rfl, hb⟩
          have Q5 := hid (Q4.out.step hb)
          have C5 := hid (C4.out.step hb)
          clear hb
          go_wp2_with fail
          refine (state_any b2 m2 S _ (by exact C5.out.j)).mono ?_
          rintro e wz ⟨rfl, rfl⟩
          go_wp2_with fail
          refine (state_any b2 m2 S _ (by exact C5.out.j)).mono ?_
          rintro e wz ⟨rfl, rfl⟩
          go_wp2_with fail
          refine (state_any b1 m1 S _ (by exact Q5.out.j.j)).mono ?_
          rintro e wz ⟨rfl, rfl⟩
          go_wp2_with fail
          go_loopg [8] 16 (fun k iv wr => ∃ n : Nat, n + k = 16 ∧ iv = .int .i64 n ∧ Below wz.heap.size wz wr)
          case atStart => exact ⟨0, by omega, rfl, Below.refl _ _⟩
          case round =>
            obtain ⟨n, hnk, rfl, hb⟩ := hrel
            by_cases hn16 : n < 16
            · have e1 : decide ((n : Int) < 16) = true := by simp; omega
              have QQ := hid (Q5.out.step hb)
              have CC := hid (C5.out.step hb)
              have HB := hid (And.intro hnk (And.intro hn16 hb))
              have HD1 := hid (fun W (hJ : JobAt b2 m2 S W) => done_any b2 m2 S (n : Int) W hJ (wf_nat16 n hn16))
              have HD2 := hid (fun W (hJ : JobAt b1 m1 S W) => done_any b1 m1 S (n : Int) W hJ (wf_nat16 n hn16))
              have hq : (dAt S.d (n : Int)).isSome = true → (dAt S.d (n : Int)).isSome = true := FF.out.2.2.2.2.1 n hn16
              generalize (dAt S.d (n : Int)).getD recZ = ra at *
              generalize (dAt S.d (n : Int)).isSome = qa at *
              obtain ⟨a0, a1, a2, a3, a4⟩ := ra
              unfold RecS.val at HD1 HD2
              dsimp only at HD1 HD2
              have hqq : (qa = false) ∨ (qa = true) := by cases qa <;> simp
              clear hnk hb hq
              rcases hqq with rfl | rfl
              all_goals
                go_wp2_with fail
                refine (HD1.out _ (by exact CC.out.j)).mono ?_
                rintro e x2 ⟨rfl, hb2⟩
                have hba : Below x2.heap.size x2 (x2.alloc (.cells #[.int .i64 a0, .int .i64 a1, .int .i64 a2, .int .i64 a3, .int .i64 a4] 73)) := (Below.refl _ _).alloc (Nat.le_refl _) _
                have QQ2 := hid ((QQ.out.step hb2).step hba)
                have BB2 := hid (HB.out.2.2.trans ((hb2.trans (hba.mono hb2.size)).mono HB.out.2.2.size))
                clear hb2 hba
                go_wp2_with fail
                refine (HD2.out _ (by exact QQ2.out.j.j)).mono ?_
                rintro e x3 ⟨rfl, hb2⟩
                have hba : Below x3.heap.size x3 (x3.alloc (.cells #[.int .i64 a0, .int .i64 a1, .int .i64 a2, .int .i64 a3, .int .i64 a4] 73)) := (Below.refl _ _).alloc (Nat.le_refl _) _
                have BB3 := hid (BB2.out.trans ((hb2.trans (hba.mono hb2.size)).mono BB2.out.size))
                clear hb2 hba
                go_wp2_with fail
                obtain ⟨hnk, _, _⟩ := HB.out
                go_roundg (gk - 1)
                case measure => omega
                case rel => exact ⟨n + 1, by omega, by go_num, BB3.out⟩
            · have e1 : decide ((n : Int) < 16) = false := by simp; omega
              have QQ := hid (Q5.out.step hb)
              clear hb
              go_wp2_with fail
              obtain ⟨hi, _⟩ := FF.out
              go_roundg (gk0 - 1)
              case measure => omega
              case rel =>
                refine ⟨i + 1, by omega, by go_num, ?_⟩
                rw [HS.out.1, HS.out.2, if_neg H0.out, List.append_nil]
                exact QQ.out
        · skip
          subst h0
          rw [show codeV 0 = .nilIface from rfl] at HA
          have d0 : decide (S'.st < S.st) = false := by simp; omega
          have d2 : decide (2 ≤ S.st) = false := by simp; omega
          clear h2 hst
          go_wp2_with fail
          refine (jcopy_any b1 m1 S _ (by exact Q.out.j.j)).mono ?_
          rintro e w3 ⟨b2, m2, rfl, hj2, hb3, hlo2, hlom2⟩
          have hD : b2 ≠ b1 ∧ b2 ≠ m1 ∧ m2 ≠ b1 ∧ m2 ≠ m1 := by
            have e7 := Q.out.j.j.blk.lt
            have e8 := Q.out.j.j.map.lt
            omega
          have DD := hid hD
          have Q3 := hid (Q.out.step hb3)
          have C3 := hid (show JW w b2 m2 S w3 from ⟨hj2, Q3.out.j.bel, Nat.le_trans Q.out.j.bel.size hlo2, Nat.le_trans Q.out.j.bel.size hlom2⟩)
          clear hj2 hb3 hlo2 hlom2 hD
          obtain ⟨p0, p1, p2, p3, p4⟩ := P0.out.keep Q3.out.j.bel
          dsimp only at p0 p1 p2 p3 p4
          go_wp2_with fail
          refine (HA.out _ (by exact Q3.out.j.j)).mono ?_
          rintro e w4 ⟨rfl, hj, ho⟩
          have Q4 := hid (Q3.out.run LT.out.1 LT.out.2 hj ho)
          have C4 := hid (C3.out.other ho Q4.out.j.bel DD.out.1 DD.out.2.1 DD.out.2.2.1 DD.out.2.2.2)
          clear hj ho p0 p1 p2 p3 p4
          go_wp2_with fail
          refine (state_any b2 m2 S _ (by exact C4.out.j)).mono ?_
          rintro e wz ⟨rfl, rfl⟩
          go_wp2_with fail
          refine (state_any b2 m2 S _ (by exact C4.out.j)).mono ?_
          rintro e wz ⟨rfl, rfl⟩
          go_wp2_with fail
          refine (state_any b1 m1 S' _ (by exact Q4.out.j.j)).mono ?_
          rintro e wz ⟨rfl, rfl⟩
          go_wp2_with fail
          go_loopg [8] 16 (fun k iv wr => ∃ n : Nat, n + k = 16 ∧ iv = .int .i64 n ∧ Below wz.heap.size wz wr)
          case atStart => exact ⟨0, by omega, rfl, Below.refl _ _⟩
          case round =>
            obtain ⟨n, hnk, rfl, hb⟩ := hrel
            by_cases hn16 : n < 16
            · have e1 : decide ((n : Int) < 16) = true := by simp; omega
              have QQ := hid (Q4.out.step hb)
              have CC := hid (C4.out.step hb)
              have HB := hid (And.intro hnk (And.intro hn16 hb))
              have HD1 := hid (fun W (hJ : JobAt b2 m2 S W) => done_any b2 m2 S (n : Int) W hJ (wf_nat16 n hn16))
              have HD2 := hid (fun W (hJ : JobAt b1 m1 S' W) => done_any b1 m1 S' (n : Int) W hJ (wf_nat16 n hn16))
              have hq : (dAt S.d (n : Int)).isSome = true → (dAt S'.d (n : Int)).isSome = true := FF.out.2.2.2.2.1 n hn16
              generalize (dAt S.d (n : Int)).getD recZ = ra at *
              generalize (dAt S'.d (n : Int)).getD recZ = rb at *
              generalize (dAt S.d (n : Int)).isSome = qa at *
              generalize (dAt S'.d (n : Int)).isSome = qb at *
              obtain ⟨a0, a1, a2, a3, a4⟩ := ra
              obtain ⟨c0, c1, c2, c3, c4⟩ := rb
              unfold RecS.val at HD1 HD2
              dsimp only at HD1 HD2
              have hqq : (qa = false) ∨ (qa = true ∧ qb = true) := by
                cases qa
                · exact .inl rfl
                · exact .inr ⟨rfl, hq rfl⟩
              clear hnk hb hq
              rcases hqq with rfl | ⟨rfl, rfl⟩
              all_goals
                go_wp2_with fail
                refine (HD1.out _ (by exact CC.out.j)).mono ?_
                rintro e x2 ⟨rfl, hb2⟩
                have hba : Below x2.heap.size x2 (x2.alloc (.cells #[.int .i64 a0, .int .i64 a1, .int .i64 a2, .int .i64 a3, .int .i64 a4] 73)) := (Below.refl _ _).alloc (Nat.le_refl _) _
                have QQ2 := hid ((QQ.out.step hb2).step hba)
                have BB2 := hid (HB.out.2.2.trans ((hb2.trans (hba.mono hb2.size)).mono HB.out.2.2.size))
                clear hb2 hba
                go_wp2_with fail
                refine (HD2.out _ (by exact QQ2.out.j.j)).mono ?_
                rintro e x3 ⟨rfl, hb2⟩
                have hba : Below x3.heap.size x3 (x3.alloc (.cells #[.int .i64 c0, .int .i64 c1, .int .i64 c2, .int .i64 c3, .int .i64 c4] 73)) := (Below.refl _ _).alloc (Nat.le_refl _) _
                have BB3 := hid (BB2.out.trans ((hb2.trans (hba.mono hb2.size)).mono BB2.out.size))
                clear hb2 hba
                go_wp2_with fail
                obtain ⟨hnk, _, _⟩ := HB.out
                go_roundg (gk - 1)
                case measure => omega
                case rel => exact ⟨n + 1, by omega, by go_num, BB3.out⟩
            · have e1 : decide ((n : Int) < 16) = false := by simp; omega
              have QQ := hid (Q4.out.step hb)
              clear hb
              obtain ⟨p0, p1, p2, p3, p4⟩ := P0.out.keep QQ.out.j.bel
              dsimp only at p0 p1 p2 p3 p4
              have hz := QQ.out.hB
              have F := hid (blk_from5 (c := 1) (m := 1) (Blk.new wr 73 #[.int .i64 rk, .int .i64 r1, .int .i64 r2, .int .i64 r3, .int .i64 r4]) rfl)
              go_wp2_with (at_builtin; refine wpList_append_form _ rfl (.tmp 95) (.tmp 100) _ rfl w2.heap.size 73 i0 (.agg #[.int .i64 0, .int .i64 0, .int .i64 0, .int .i64 0, .int .i64 0]) 5 40 Tryd.underlying68 IP.out.1 IP.out.2.1 IP.out.2.2.1 IP.out.2.2.2 rfl (by omega) u4 ds.length (recCells ds) rfl (by exact QQ.out.row.alloc _) (.slice (some ⟨wr.heap.size, 0, none⟩) 1 1) 1 [.int .i64 rk, .int .i64 r1, .int .i64 r2, .int .i64 r3, .int .i64 r4] rfl (by exact F.out) (by simp [Value.oneCell']) (.inr (by omega)) (by have := FF.out.2.1; unfold maxLen; omega) (by have := FF.out.2.1; omega) (by simp; omega) (ds.length + 1) (recCells (ds ++ [⟨rk, r1, r2, r3, r4⟩])) rfl FF.out.2.2.2.2.2 ?_; intro g9 cap9 w9 hown hgrow hat hlt9)
              have oa := QQ.out.row.alloc (.cells #[.int .i64 rk, .int .i64 r1, .int .i64 r2, .int .i64 r3, .int .i64 r4] 73)
              have Qa := QQ.out.step ((Below.refl _ _).alloc (Nat.le_refl _) (.cells #[.int .i64 rk, .int .i64 r1, .int .i64 r2, .int .i64 r3, .int .i64 r4] 73))
              have hO : Only (fun k => u4.ownBlock = some k) _ w9 := ⟨hgrow.os, hgrow.tape, hgrow.output, hgrow.size, fun k hk hn => hgrow.block k hk (fun e => hn e.symm)⟩
              have hlt1 := LT.out
              have Q9 := hid (show SG w w2.heap.size b1 m1 (.slice (some ⟨g9, 0, none⟩) (ds.length + 1) cap9) S' (ds ++ [⟨rk, r1, r2, r3, r4⟩]) w9 from
                ⟨⟨Qa.j.j.keep hO (fun e => by have := (oa.lt _ e).1; omega) (fun e => by have := (oa.lt _ e).1; omega), Qa.j.bel.grown hgrow Qa.j.bel.size (fun k hk => by have := (oa.lt k hk).1; have := Q2.out.j.bel.size; omega), Qa.j.lo, Qa.j.lom⟩, by rw [List.length_append]; exact hown, Nat.le_trans Qa.hB hO.size⟩)
              clear hown hgrow hat hlt9 oa Qa hO p0 p1 p2 p3 p4 hlt1
              go_wp2_with fail
              obtain ⟨hi, _⟩ := FF.out
              go_roundg (gk0 - 1)
              case measure => omega
              case rel =>
                refine ⟨i + 1, by omega, by go_num, ?_⟩
                rw [HS.out.1, HS.out.2]
                first
                  | rw [if_pos rfl]
                  | rw [if_pos trivial]
                exact Q9.out
      · obtain rfl : i = l.length := by omega
        have hnn : decide ((l.length : Int) < (l.length : Int)) = false := by simp
        rw [List.take_length] at hQ
        have hta := taken_all l jobZ
        have htr := taken_repl l jobZ
        have htl := taken_len l jobZ
        have hJF := JF.repl l
        have hl4 := HL.out
        generalize takenL l jobZ = ds at *
        generalize replTo l jobZ = S at *
        have Q := hid hQ
        have hds : ds.length ≤ 400 := by omega
        have FF := hid (And.intro hta (And.intro htr hJF))
        obtain ⟨A5, c5, rfl⟩ := own_slice hQ.row
        clear hQ hta htr hJF hlt hi
        go_wp2_with fail
        refine (replay_any _ ds _ (by exact RdR.of_own Q.out.row) (by omega)).mono ?_
        rintro e w3 ⟨b3, m3, n, rfl, hQ3, hn, hT, hR⟩
        obtain rfl : n = ds.length := by
          rcases Nat.lt_or_ge n ds.length with h | h
          · exact absurd (FF.out.1 n _ (List.getElem?_eq_getElem h)) (hR _ (List.getElem?_eq_getElem h))
          · omega
        rw [List.take_length, FF.out.2.1] at hQ3
        have K3 := hid hQ3
        have Q3 := hid (Q.out.step hQ3.bel)
        clear hQ3 hn hT hR
        go_wp2_with fail
        refine (jfirst_any _ (HG.out.1.below Q3.out.j.bel HG.out.2)).mono ?_
        rintro e w4 ⟨rfl, hb⟩
        have Q4 := hid (Q3.out.step hb)
        have K4 := hid (K3.out.j.below hb)
        clear hb
        go_wp2_with fail
        refine (alike_any b3 m3 b1 m1 S _ (by exact K4.out) (by exact Q4.out.j.j) FF.out.2.2.toJI).mono ?_
        rintro e w5 ⟨rfl, hb⟩
        have Q5 := hid (Q4.out.step hb)
        clear hb
        go_wp2_with fail
        go_ret
        exact ⟨rfl, Q5.out.j.bel⟩
end Go.Proofs.YtabklmkdneoaaaaDoor
