/- CoefBounds: the walk. -/
import Derived.Test.YtnlfnknkiggejaaDoorOwnC
import Derived.Test.YtnlfnknkiggejaaDoorErrMiss
import Derived.Test.YtnlfnknkiggejaaDoorOpenLst
import Derived.Test.YtnlfnknkiggejaaDoorUMem
namespace Go.Proofs.YtnlfnknkiggejaaDoor
open Go.RowKit

theorem nums_blk {W : World} {g : Nat} {l : List Int} {cs : Array Value} (h : Blk W g 3 cs) (hc : cs = (l.map intV).toArray) : Nums W (.slice (some ⟨g, 0, none⟩) l.length l.length) l := (noff_new (F := fun _ => False) h hc rfl (fun h => h)).n
set_option maxRecDepth 100000 in
set_option maxHeartbeats 8000000 in
theorem cbounds_walk (x y : Value) (bs : List UInt8) (l : List Bool) (w : World) (hx : Byt w x bs) (_ : bs.length ≤ maxLen) (hy : Els w 1 BoolR y l) (_ : l.length ≤ maxLen) (hsz : bs.length ≤ 140737488351232) (hg : ErrT w) :
    Calls Tryd.prog 6 #[x, y] w fun e w' => e = .returned (.bool true) ∧ Below w.heap.size w w' := by
  obtain ⟨A, c, rfl, hc⟩ := hx.form
  obtain ⟨B, d, rfl, hd⟩ := Els.form hy
  have HG := hid (And.intro hg hg.lt)
  have X := hid hx
  have Y := hid hy
  clear hg hx hc hy hd
  have hbig : decide ((20000 : Int) < (bs.length : Int)) = true ∨ decide ((20000 : Int) < (bs.length : Int)) = false := by cases decide ((20000 : Int) < (bs.length : Int)) <;> simp
  rcases hbig with hbig | hbig
  · go_enter Tryd.func6, Tryd.ntmps6
    go_wp2_with fail
    refine (first14 _ HG.out.1).mono ?_
    rintro e w1 ⟨rfl, h1⟩
    have B1 := hid h1
    clear h1
    go_wp2_with fail
    refine (new_rd _ bs _ (X.out.below B1.out).from_ (by omega)).mono ?_
    rintro e w2 ⟨b1, F1, rfl, _, _, hb1⟩
    have B2 := hid (B1.out.trans (hb1.mono B1.out.size))
    clear hb1
    go_wp2_with fail
    refine (first14 _ (by exact HG.out.1.below B2.out HG.out.2)).mono ?_
    rintro e w4 ⟨rfl, hb4⟩
    have B4 := hid (B2.out.trans (hb4.mono B2.out.size))
    clear hb4
    go_wp2_with fail
    go_ret
    exact ⟨rfl, B4.out⟩
  · have HL := hid (show bs.length ≤ 20000 by simp only [decide_eq_false_iff_not] at hbig; omega)
    go_enter Tryd.func6, Tryd.ntmps6
    go_wp2_with fail
    refine (first14 _ HG.out.1).mono ?_
    rintro e w1 ⟨rfl, h1⟩
    have B1 := hid h1
    clear h1
    go_wp2_with fail
    refine (new_rd _ bs _ (X.out.below B1.out).from_ (by have := HL.out; omega)).mono ?_
    rintro e w2 ⟨b1, F1, rfl, ha1, hf1, hb1⟩
    have O2 := hid (show OwnC (AtRd b1) w (Rd.new bs) w2 F1 from ⟨ha1, fun k hk => Nat.le_trans B1.out.size (hf1 k hk), B1.out.trans (hb1.mono B1.out.size)⟩)
    clear ha1 hf1 hb1
    go_wp2_with fail
    clear hbig
    go_loopg [6] l.length (fun k iv wr => ∃ (i : Nat) (s : Rd) (F : Nat → Prop) (m : Nat), i + k = l.length ∧ iv = .int .i64 i ∧ i ≤ 200 ∧ OwnC (AtRd b1) w s wr F ∧ m ≤ 4 + 8300 * i ∧ s.Ok m)
    case atStart => exact ⟨0, Rd.new bs, F1, 4, by omega, rfl, by omega, O2.out, by omega, ok_rd_new bs⟩
    case round =>
      obtain ⟨i, s, F, m, hik, rfl, hi200, hown, hm, hok⟩ := hrel
      have O := hid (And.intro hown hok)
      have hcase : (decide ((i : Int) < (l.length : Int)) = false ∧ ¬ i < l.length) ∨ (i < l.length ∧ decide ((i : Int) < (l.length : Int)) = true ∧ decide ((i : Int) < 200) = false) ∨ (i < l.length ∧ decide ((i : Int) < (l.length : Int)) = true ∧ decide ((i : Int) < 200) = true) := by
        by_cases h1 : i < l.length
        · have e1 : decide ((i : Int) < (l.length : Int)) = true := by simp; omega
          by_cases h2 : i < 200
          · exact .inr (.inr ⟨h1, e1, by simp; omega⟩)
          · exact .inr (.inl ⟨h1, e1, by simp; omega⟩)
        · exact .inl ⟨by simp; omega, h1⟩
      rcases hcase with ⟨h1, h2⟩ | ⟨h1, h2, h3⟩ | ⟨h1, h2, h3⟩
      · have h9 : decide (i < l.length) = false := decide_eq_false h2
        clear hown hok
        go_wp2_with fail
        refine (first14 _ (by exact HG.out.1.below O.out.1.bel HG.out.2)).mono ?_
        rintro e w4 ⟨rfl, hb4⟩
        have B4 := hid (O.out.1.bel.trans (hb4.mono O.out.1.bel.size))
        clear hb4
        go_wp2_with fail
        go_ret
        exact ⟨rfl, B4.out⟩
      · have h9 : decide (i < l.length) = true := decide_eq_true h1
        clear hown hok
        go_wp2_with fail
        refine (first14 _ (by exact HG.out.1.below O.out.1.bel HG.out.2)).mono ?_
        rintro e w4 ⟨rfl, hb4⟩
        have B4 := hid (O.out.1.bel.trans (hb4.mono O.out.1.bel.size))
        clear hb4
        go_wp2_with fail
        go_ret
        exact ⟨rfl, B4.out⟩
      · have h9 : decide (i < l.length) = true := decide_eq_true h1
        obtain ⟨u, hu⟩ : ∃ u, l[i]? = some u := ⟨l[i], List.getElem?_eq_getElem h1⟩
        obtain ⟨b4, o4, cs0, rfl, hb4, _, rfl, hcell⟩ := Els.at_ Y.out hu
        have f0 := (hown.bel.cell (p := ⟨b4, o4 + i, none⟩) hb4).trans (by simpa using hcell 0 _ rfl)
        have k0 : (0 : Int) ≤ (i : Int) := by omega
        have k1 : (i : Int) < (l.length : Int) := by omega
        have HI := hid (And.intro hik h1)
        clear hown hok hu hcell hb4
        go_upto_if 41 with fail
        go_cut [7] from 38 to 41 (fun v W => v = .int .i64 (nOf u : Int) ∧ wr = W)
        case first =>
          cases u
          all_goals
            go_wp2_with fail
            go_meet
            exact ⟨rfl, rfl⟩
        case rest =>
          obtain ⟨rfl, rfl⟩ := hcut
          have hsz := sized_zeros u
          have hnn : nOf u ≤ 64 ∧ 0 < nOf u := by cases u <;> simp [nOf]
          have hmk := run_make_int (nOf u) (by omega)
          have hzl : (zerosL (nOf u)).length = nOf u := by simp [zerosL]
          have HZ := hid (And.intro hsz hzl)
          generalize nOf u = n at *
          generalize sdOf u = sd at *
          generalize baseOf u = base at *
          clear hsz hzl f0
          go_wp2_with fail
          have hal : Below wr.heap.size wr (wr.alloc (.cells ((zerosL n).map intV).toArray 3)) := (Below.refl _ _).alloc (Nat.le_refl _) _
          have hx5 := noff_new (n := n) (l := zerosL n) (F := F) (Blk.new wr 3 ((zerosL n).map intV).toArray) rfl HZ.out.2 (O.out.1.at_new (rd_coder b1))
          have O3 := hid (And.intro (O.out.1.below (rd_coder b1) hal) hx5)
          clear hal hx5
          refine (rcode b1 sd base _ (zerosL n) HZ.out.1 (zeros_in n) s _ F m (by exact O3.out.1.a) O.out.2 (by omega) (by exact O3.out.2)).mono ?_
          rintro e w6 ⟨F6, hcw, hans⟩
          obtain ⟨m6, hm6, hok6⟩ := ok_square (rd_coder b1) HZ.out.1 s m O.out.2
          have hsq := ans_square (M := rdM) HZ.out.1 s
          have O6 := hid (And.intro (O3.out.1.code hcw) hok6)
          clear hcw hok6
          rw [HZ.out.2] at hsq
          generalize rdM.run (squareA base (ordOf sd) (zerosL n)) s = q at *
          obtain ⟨⟨qo, ql⟩, qs⟩ := q
          rcases hsq with ⟨hq1, hq2, hq3⟩ | ⟨k, hq1, hq2, hq3⟩
          · dsimp only at hq1 hq2 hq3
            subst hq1
            obtain ⟨g6, rfl, hb6⟩ := hans
            dsimp only at O6 hb6
            have hnb := nums_blk hb6.b rfl
            rw [hq2] at hnb
            have N6 := hid hnb
            have hin : (ql.all fun v => decide (-16320 ≤ v) && decide (v ≤ 16320)) = true := by
              rw [List.all_eq_true]
              intro v hv
              have := hq3 v hv
              simp only [Bool.and_eq_true, decide_eq_true_eq]
              exact this
            have HIN := hid hin
            have HQ2 := hid hq2
            rw [show ((none, ql) : SqR).2.length = n from hq2]
            have e1 : ((n : Int) != (n : Int)) = false := by simp
            clear hb6 hnb hin hq3 hq2
            go_wp2_with fail
            refine (within_any _ ql (-16320) 16320 _ (by exact N6.out) (by have := HQ2.out; omega)).mono ?_
            rintro e w7 ⟨rfl, rfl⟩
            rw [HIN.out]
            go_wp2_with fail
            go_roundg (gk - 1)
            case measure => have := HI.out; omega
            case rel => exact ⟨i + 1, qs, F6, m6, by have := HI.out; omega, by go_num, by simp only [decide_eq_true_eq] at h3; omega, O6.out.1, by omega, O6.out.2⟩
          · dsimp only at hq1 hq2 hq3
            subst hq1 hq3
            obtain ⟨ev, rfl, hev⟩ := hans
            obtain ⟨tv, xv, hform⟩ := hev.form
            subst hform
            have EV := hid hev
            dsimp only at O6
            clear hev
            go_wp2_with fail
            have BB := hid O6.out.1.bel
            have hn64 : (0 : Int) ≤ (n : Int) ∧ (n : Int) ≤ 64 := by omega
            go_loopg [10, 11] n (fun t mv kv wr => ∃ j : Nat, j + t = n ∧ mv = .bool (decide (k < j)) ∧ kv = .int .i64 j ∧ Below w6.heap.size w6 wr)
            case atStart => exact ⟨0, by omega, rfl, rfl, Below.refl _ _⟩
            case round =>
              obtain ⟨j, hj, rfl, rfl, hb⟩ := hrel
              have HB := hid hb
              clear hb
              by_cases hlt : j < n
              · have e1 : decide ((j : Int) < (n : Int)) = true := by simp; omega
                have e1n : decide (j < n) = true := decide_eq_true hlt
                have HJ := hid (And.intro hj hlt)
                have hjb : (0 : Int) ≤ (j : Int) ∧ (j : Int) ≤ 64 := by omega
                have HR := hid (fun W => kwrap_any ⟨#[99, 111, 101, 102]⟩ (j : Int) 3 W (by omega))
                unfold RefErr at HR
                have hc3 : k < j ∨ k = j ∨ j < k := by omega
                clear hj hlt
                rcases hc3 with hkj | hkj | hkj
                · have e2 : decide (k < j) = true := decide_eq_true hkj
                  have e3 : decide (k < j + 1) = true := decide_eq_true (by omega)
                  rw [e2]
                  have E3 := hid e3
                  clear e2 e3 hkj
                  go_wp2_with fail
                  go_roundg (gk - 1)
                  case measure => have := HJ.out; omega
                  case rel => exact ⟨j + 1, by have := HJ.out; omega, by rw [E3.out], by go_num, HB.out⟩
                · have e2 : decide (k < j) = false := decide_eq_false (by omega)
                  have e3 : decide (k < j + 1) = true := decide_eq_true (by omega)
                  rw [e2]
                  have E3 := hid e3
                  subst hkj
                  clear e2 e3
                  go_wp2_with fail
                  refine (HR.out _).mono ?_
                  rintro e w8 ⟨pv, rfl, hst, _, hb8⟩
                  have HB8 := hid (And.intro (HB.out.trans (hb8.mono HB.out.size)) hst)
                  clear hst hb8
                  go_wp2_with fail
                  refine (err_path 3 [(⟨#[99, 111, 101, 102]⟩, (k : Int))] _ pv _ (by exact EV.out.below HB8.out.1) (by exact HB8.out.2) (by exact HG.out.1.below (BB.out.trans (HB8.out.1.mono BB.out.size)) HG.out.2) (by omega) (by show 1 ≤ 1000; omega)).mono ?_
                  rintro e w9 ⟨rfl, hb9⟩
                  have HB9 := hid (HB8.out.1.trans (hb9.mono HB8.out.1.size))
                  clear hb9
                  go_wp2_with fail
                  go_roundg (gk - 1)
                  case measure => have := HJ.out; omega
                  case rel => exact ⟨k + 1, by have := HJ.out; omega, by rw [E3.out], by go_num, HB9.out⟩
                · have e2 : decide (k < j) = false := decide_eq_false (by omega)
                  have e3 : decide (k < j + 1) = false := decide_eq_false (by omega)
                  rw [e2]
                  have E3 := hid e3
                  have NE := hid (show (k : Int) ≠ (j : Int) by omega)
                  clear e2 e3 hkj
                  go_wp2_with fail
                  refine (HR.out _).mono ?_
                  rintro e w8 ⟨pv, rfl, hst, _, hb8⟩
                  have HB8 := hid (And.intro (HB.out.trans (hb8.mono HB.out.size)) hst)
                  clear hst hb8
                  go_wp2_with fail
                  refine (err_miss 3 (k : Int) (j : Int) ⟨#[99, 111, 101, 102]⟩ _ pv _ (by exact EV.out.below HB8.out.1) (by exact HB8.out.2) (by exact HG.out.1.below (BB.out.trans (HB8.out.1.mono BB.out.size)) HG.out.2) (by omega) (by exact NE.out)).mono ?_
                  rintro e w9 ⟨rfl, hb9⟩
                  have HB9 := hid (HB8.out.1.trans (hb9.mono HB8.out.1.size))
                  clear hb9
                  go_wp2_with fail
                  go_roundg (gk - 1)
                  case measure => have := HJ.out; omega
                  case rel => exact ⟨j + 1, by have := HJ.out; omega, by rw [E3.out], by go_num, HB9.out⟩
              · obtain rfl : j = n := by omega
                have e1 : decide ((j : Int) < (j : Int)) = false := by simp
                have e2 : decide (k < j) = true := decide_eq_true hq2
                rw [e2]
                clear e2 hlt hj
                go_wp2_with fail
                refine (first14 _ (by exact HG.out.1.below (BB.out.trans (HB.out.mono BB.out.size)) HG.out.2)).mono ?_
                rintro e w8 ⟨rfl, hb8⟩
                have B8 := hid ((BB.out.trans (HB.out.mono BB.out.size)).trans (hb8.mono (BB.out.trans (HB.out.mono BB.out.size)).size))
                clear hb8
                go_wp2_with fail
                go_ret
                exact ⟨rfl, B8.out⟩
end Go.Proofs.YtnlfnknkiggejaaDoor
