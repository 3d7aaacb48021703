/- UnitTurned: the walk. -/
import Derived.Test.YtabklmkdneoaaaaDoorUTurned
import Derived.Test.YtabklmkdneoaaaaDoorULawLong
namespace Go.Proofs.YtabklmkdneoaaaaDoor
open Go.RowKit

/-- What UnitTurned holds. -/
structure TN (w W : World) : Prop where
  et : ErrT W
  bel : Below w.heap.size w W
theorem TN.step {w W W' : World} (h : TN w W) (hb : Below W.heap.size W W') : TN w W' := ⟨h.et.below hb h.et.lt, h.bel.trans (hb.mono h.bel.size)⟩
set_option maxRecDepth 100000 in
set_option maxHeartbeats 4000000 in
theorem uturned_skip (k : Int) (A : Option Addr) (n c : Nat) (a z : Int) (w : World) (hg : ErrT w) (hs : 20000 < n ∨ k < 1 ∨ 255 < k ∨ z = 0) :
    Calls Tryd.prog 5 #[.int .i64 k, .slice A n c, .int .i64 a, .int .u8 z] w fun e w' => e = .returned (.bool true) ∧ Below w.heap.size w w' := by
  have HG := hid (And.intro hg hg.lt)
  clear hg
  have hcase : decide ((20000 : Int) < (n : Int)) = true ∨ (decide ((20000 : Int) < (n : Int)) = false ∧ decide (k < 1) = true) ∨ (decide ((20000 : Int) < (n : Int)) = false ∧ decide (k < 1) = false ∧ decide (255 < k) = true) ∨ (decide ((20000 : Int) < (n : Int)) = false ∧ decide (k < 1) = false ∧ decide (255 < k) = false ∧ z = 0) := by
    simp only [decide_eq_true_eq, decide_eq_false_iff_not]
    omega
  clear hs
  rcases hcase with h1 | ⟨h1, h2⟩ | ⟨h1, h2, h3⟩ | ⟨h1, h2, h3, rfl⟩
  all_goals
    go_enter Tryd.func5, Tryd.ntmps5
    go_wp2_with fail
    refine (ufirst_any _ HG.out.1).mono ?_
    rintro e w1 ⟨rfl, h1⟩
    have B1 := hid h1
    clear h1
    go_wp2_with fail
    refine (ufirst_any _ (HG.out.1.below B1.out HG.out.2)).mono ?_
    rintro e w2 ⟨rfl, h1⟩
    have B2 := hid h1
    clear h1
    go_wp2_with fail
    go_ret
    exact ⟨rfl, B1.out.trans (B2.out.mono B1.out.size)⟩
/-- The place that is turned. -/
theorem turn_place (a : Int) (L : Nat) (hL : 1 ≤ L) (ha : (Lit.int .i64 a).wf = true) : ∃ (b : Int) (p : Nat), b.tmod (L : Int) = (p : Int) ∧ p < L ∧ ((decide (a < 0) = false ∧ a = b) ∨ (decide (a < 0) = true ∧ wrap64 (-(wrap64 (a + 1))) = b)) := by
  have hb := bounds_i64 ha
  obtain ⟨m, hm⟩ : ∃ m : Nat, (a < 0 ∧ -(a + 1) = m) ∨ (0 ≤ a ∧ a = m) := by
    rcases Int.lt_or_le a 0 with h | h
    · exact ⟨(-(a + 1)).toNat, .inl ⟨h, by omega⟩⟩
    · exact ⟨a.toNat, .inr ⟨h, by omega⟩⟩
  refine ⟨(m : Int), m % L, rfl, Nat.mod_lt _ hL, ?_⟩
  rcases hm with ⟨h, h'⟩ | ⟨h, h'⟩
  · refine .inr ⟨by simpa using h, ?_⟩
    rw [IntWalk.wrap64_in (a + 1) (by omega), IntWalk.wrap64_in _ (by omega)]
    exact h'
  · exact .inl ⟨by simp; omega, h'⟩
set_option maxRecDepth 100000 in
set_option maxHeartbeats 8000000 in
theorem uturned_walk (x : Value) (k : Int) (bs : List UInt8) (a z : Int) (w : World) (_ : (Lit.int .i64 k).wf = true) (hx : Byt w x bs) (_ : bs.length ≤ maxLen) (ha : (Lit.int .i64 a).wf = true) (hz : (Lit.int .u8 z).wf = true) (hg : ErrT w) :
    Calls Tryd.prog 5 #[.int .i64 k, x, .int .i64 a, .int .u8 z] w fun e w' => e = .returned (.bool true) ∧ Below w.heap.size w w' := by
  obtain ⟨A, c, rfl, hc⟩ := hx.form
  by_cases hs : 20000 < bs.length ∨ k < 1 ∨ 255 < k ∨ z = 0
  · exact uturned_skip k A bs.length c a z w hg hs
  · obtain ⟨kn, rfl⟩ := Int.eq_ofNat_of_zero_le (show 0 ≤ k by omega)
    have hk : 1 ≤ kn ∧ kn ≤ 255 := by omega
    have hl : bs.length ≤ 20000 := by omega
    have hz0 : ¬ z = 0 := by omega
    have d1 : decide ((20000 : Int) < (bs.length : Int)) = false := by simp; omega
    have d2 : decide ((kn : Int) < 1) = false := by simp; omega
    have d3 : decide ((255 : Int) < (kn : Int)) = false := by simp; omega
    obtain ⟨L, hL⟩ : ∃ L, L = bs.length + 8 := ⟨_, rfl⟩
    have hL2 : (bs.length : Int) + 8 = (L : Int) := by omega
    have hul : (unitBytes kn bs).length = L := by rw [unitBytes_len _ _ hk.1, hL]
    obtain ⟨b, p, hp, hpL, hsign⟩ := turn_place a L (by omega) ha
    obtain ⟨v, hv⟩ : ∃ v, (unitBytes kn bs)[p]? = some v := ⟨(unitBytes kn bs)[p]'(by omega), List.getElem?_eq_getElem (by omega)⟩
    have hxb := byteV_of_wf hz
    generalize UInt8.ofNat z.toNat = xb at *
    have hxz : z = (xb.toNat : Int) := by
      unfold byteV at hxb
      injection hxb with h1 h2
      exact h2.symm
    have hx0 : xb ≠ 0 := by
      rintro rfl
      exact hz0 (by rw [hxz]; rfl)
    have hy : v ^^^ xb ≠ v := xor_turns hx0
    have hxor : bits .xor .u8 ((v.toNat : Nat) : Int) z = (((v ^^^ xb).toNat : Nat) : Int) := by
      rw [hxz, u8_xor_nat _ _ v.toNat_lt xb.toNat_lt, UInt8.toNat_xor]
    obtain ⟨y, hyd⟩ : ∃ y, y = v ^^^ xb := ⟨_, rfl⟩
    rw [← hyd] at hy hxor
    have hT : (p < 1 ∨ 3 < p) → ((unitBytes kn bs).set p y)[0]? ≠ some 0 → nextU ((unitBytes kn bs).set p y) 0 = .no [(unitS, 0)] 4 := nextU_turned hk (by omega) hv hy
    have hmade := hid (fun w' hW => made_unit kn (.slice A bs.length c) bs w' hW hk.1 hk.2 (by omega))
    generalize unitBytes kn bs = ub at *
    have hsl : (ub.set p y).length = L := by rw [List.length_set]; exact hul
    obtain ⟨u0, hu0⟩ : ∃ u, (ub.set p y)[0]? = some u := ⟨(ub.set p y)[0]'(by omega), List.getElem?_eq_getElem (by omega)⟩
    have X := hid hx
    have HG := hid (And.intro hg hg.lt)
    have PL := hid (And.intro hul (And.intro hT (And.intro hsl (And.intro hv (And.intro hu0 (And.intro hpL (And.intro hl hL)))))))
    clear hx hg hz hxb hxz hx0 hy hyd hT hul hsl hv hu0 hL hpL hl hk hs ha hc
    have p0 : (0 : Int) ≤ (p : Int) := by omega
    have p1 : (p : Int) < (L : Int) := by have := PL.out.2.2.2.2.2.1; omega
    have p2 : (0 : Int) < (L : Int) := by omega
    have p3 : ¬ ((L : Int) = 0) := by omega
    have p4 : (L : Int) ≤ 20008 := by have := PL.out.2.2.2.2.2.2; omega
    rcases hsign with ⟨hsg, rfl⟩ | ⟨hsg, hb⟩
    all_goals
      go_enter Tryd.func5, Tryd.ntmps5
      go_wp2_with fail
      refine (ufirst_any _ HG.out.1).mono ?_
      rintro e w1 ⟨rfl, h1⟩
      have T1 := hid (TN.mk (HG.out.1.below h1 HG.out.2) h1)
      have X1 := hid (X.out.below h1)
      clear h1
      go_wp2_with fail
      refine (hmade.out _ X1.out).mono ?_
      rintro e w2 ⟨g, cap, rfl, ho, h2⟩
      have T2 := hid (T1.out.step h2)
      rw [PL.out.1] at ho
      have hg2 := ho.lt g rfl
      have hbg : w.heap.size ≤ g := by have := T1.out.bel.size; omega
      simp only [PL.out.1]
      have O2 := hid (And.intro ho hbg)
      clear ho h2 hg2 hbg
      go_wp2_with fail
      refine (size_any bs.length _ (by omega) (by omega)).mono ?_
      rintro e w3 ⟨rfl, rfl⟩
      by_cases hin : 1 ≤ p ∧ p ≤ 3
      · have e1 : decide ((1 : Int) ≤ (p : Int)) = true := by simp; omega
        have e2 : decide ((p : Int) ≤ (3 : Int)) = true := by simp; omega
        go_wp2_with fail
        refine (ufirst_any _ (by exact T2.out.et)).mono ?_
        rintro e w4 ⟨rfl, h4⟩
        have T4 := hid (T2.out.step h4)
        clear h4
        go_wp2_with fail
        go_ret
        exact ⟨rfl, T4.out.bel⟩
      · have hout : p < 1 ∨ 3 < p := by omega
        have OT := hid hout
        have hsp : (decide ((1 : Int) ≤ (p : Int)) = false) ∨ (decide ((1 : Int) ≤ (p : Int)) = true ∧ decide ((p : Int) ≤ (3 : Int)) = false) := by
          simp only [decide_eq_true_eq, decide_eq_false_iff_not]
          omega
        have cp := O2.out.1.cellAt p (by have := PL.out.2.2.2.2.2.1; omega)
        have fp := O2.out.1.frozenAt p
        rw [List.getElem?_map, PL.out.2.2.2.1] at cp
        have ho2 := (O2.out.1.stored p (byteV y)).1
        rw [map_set_byteV] at ho2
        have hb2 := ((Only.of_below (S := fun k => w.heap.size ≤ k) T2.out.bel).put O2.out.2 p (byteV y)).below (Nat.le_refl _)
        have hbv : byteV y = .int .u8 ((y.toNat : Nat) : Int) := rfl
        rw [hbv] at ho2 hb2
        have T3 := hid (TN.mk (HG.out.1.below hb2 HG.out.2) hb2)
        have O3 := hid ho2
        have c0 := ho2.cellAt 0 (by omega)
        rw [List.getElem?_map, PL.out.2.2.2.2.1] at c0
        simp only [Option.map_some, byteV] at cp c0
        have U0 := hid (show ((u0.toNat : Nat) : Int) = 0 → u0 = 0 from fun h => UInt8.toNat_inj.1 (by simpa using h))
        clear hin hout ho2 hb2 hbv
        generalize hvn : v.toNat = vn at *
        generalize hyn : y.toNat = yn at *
        generalize hun : ((u0.toNat : Nat) : Int) = un at *
        have hvl : vn < 256 := by have := v.toNat_lt; omega
        have hyl : yn < 256 := by have := y.toNat_lt; omega
        have HY := hid (And.intro hvn (And.intro hyn hun))
        clear hvn hyn hun
        by_cases hz1 : un = 0
        · subst hz1
          rcases hsp with e1 | ⟨e1, e2⟩
          all_goals
            go_wp2_with fail
            refine (ufirst_any _ (by exact T3.out.et)).mono ?_
            rintro e w4 ⟨rfl, h4⟩
            have T4 := hid (T3.out.step h4)
            clear h4
            go_wp2_with fail
            go_ret
            exact ⟨rfl, T4.out.bel⟩
        · rcases hsp with e1 | ⟨e1, e2⟩
          all_goals
            go_wp2_with fail
            have hno := PL.out.2.1 OT.out (by rw [PL.out.2.2.2.2.1]; intro h; injection h with h; exact hz1 (by rw [← HY.out.2.2, h]; rfl))
            have hn := next_any (.slice (some ⟨g, 0, none⟩) L cap) (ub.set p y) 0 _ (Byt.of_own O3.out PL.out.2.2.1) (by have := PL.out.2.2.1; omega)
            unfold NextRes at hn
            rw [hno] at hn
            have HN := hid hn
            clear hn hno
            refine HN.out.mono ?_
            rintro e w4 ⟨fv, rfl, hfv, h4⟩
            have T4 := hid (T3.out.step h4)
            have T5 := hid (T4.out.step ((Below.refl _ _).alloc (Nat.le_refl _) (.cells #[.int .i64 0, .slice none 0 0, .int .i64 0, .int .i64 0] 35)))
            have V5 := hid (hfv.below ((Below.refl _ _).alloc (Nat.le_refl _) (.cells #[.int .i64 0, .slice none 0 0, .int .i64 0, .int .i64 0] 35)))
            clear h4 hfv HN T4
            go_wp2_with fail
            refine (ufirst_any _ (by exact T5.out.et)).mono ?_
            rintro e w5 ⟨rfl, h5⟩
            have T6 := hid (T5.out.step h5)
            have V6 := hid (V5.out.below h5)
            clear h5
            go_wp2_with fail
            refine (kwrap_any unitS 0 4 _ (by omega)).mono ?_
            rintro e w6 ⟨pv, rfl, hst, _, hb6⟩
            have T7 := hid (T6.out.step hb6)
            have V7 := hid (And.intro (V6.out.below hb6) hst)
            clear hst hb6
            go_wp2_with fail
            refine (err_path 4 [(unitS, 0)] fv pv _ (by exact V7.out.1) (by exact V7.out.2) (by exact T7.out.et) (by omega) (by simp)).mono ?_
            rintro e w7 ⟨rfl, hb7⟩
            have T8 := hid (T7.out.step hb7)
            clear hb7
            go_wp2_with fail
            go_ret
            exact ⟨rfl, T8.out.bel⟩
end Go.Proofs.YtabklmkdneoaaaaDoor
