/- UnitLong: the walk. -/
import Derived.Test.YtabklmkdneoaaaaDoorUMakeAny
import Derived.OpenShut
namespace Go.Proofs.YtabklmkdneoaaaaDoor
open Go.RowKit

theorem byteV_of_wf {z : Int} (h : (Lit.int .u8 z).wf = true) : byteV (UInt8.ofNat z.toNat) = .int .u8 z := by
  have hb : 0 ≤ z ∧ z < 256 := by
    have := bounds_u8 h
    omega
  unfold byteV
  congr 1
  simp
  omega
theorem map_set_byteV (cur : List UInt8) (j : Nat) (x : UInt8) : (cur.map byteV).set j (byteV x) = (cur.set j x).map byteV := by rw [List.map_set]
theorem set_step {l : List UInt8} {x : UInt8} {j : Nat} (h : ∀ i, i < j → l[i]? = some x) (hj : j < l.length) : ∀ i, i < j + 1 → (l.set j x)[i]? = some x := by
  intro i hi
  by_cases e : j = i
  · subst e
    simp [hj]
  · rw [List.getElem?_set_ne e]
    exact h i (by omega)
theorem all_same {l : List UInt8} {x : UInt8} {m : Nat} (hl : l.length = m) (h : ∀ i, i < m → l[i]? = some x) : l = List.replicate m x := by
  apply List.ext_getElem?
  intro i
  rw [List.getElem?_replicate]
  split
  · rename_i hi; exact h i hi
  · exact List.getElem?_eq_none (by omega)
theorem nextU_made {k : Nat} {d : List UInt8} (hk : 1 ≤ k ∧ k ≤ 255) (hd : d.length ≤ 65536) : nextU (unitBytes k d) 0 = .ok ⟨k, d, 0, d.length + 8⟩ := by
  unfold nextU
  rw [if_neg (by rw [unitBytes_len _ _ hk.1]; omega)]
  have h := readU_made hk hd []
  rw [List.append_nil] at h
  show (match readU (List.drop 0 (unitBytes k d)) with | .no c => _ | .fill => _ | .unit k d => _) = _
  rw [List.drop_zero, h]
  simp
/-- What UnitLong holds behind the loop. -/
structure LG (w : World) (d : Value) (bs : List UInt8) (W : World) : Prop where
  et : ErrT W
  bel : Below w.heap.size w W
  d : Byt W d bs
theorem LG.step {w W W' : World} {d : Value} {bs : List UInt8} (h : LG w d bs W) (hb : Below W.heap.size W W') : LG w d bs W' :=
  ⟨h.et.below hb h.et.lt, h.bel.trans (hb.mono h.bel.size), h.d.below hb⟩
set_option maxRecDepth 100000 in
set_option maxHeartbeats 4000000 in
theorem ulong_walk (k n z : Int) (w : World) (_ : (Lit.int .i64 k).wf = true) (_ : (Lit.int .i64 n).wf = true) (hz : (Lit.int .u8 z).wf = true) (hg : ErrT w) :
    Calls Tryd.prog 3 #[.int .i64 k, .int .i64 n, .int .u8 z] w fun e w' => e = .returned (.bool true) ∧ Below w.heap.size w w' := by
  have HG := hid (And.intro hg hg.lt)
  have HZ := hid (byteV_of_wf hz)
  generalize UInt8.ofNat z.toNat = xb at *
  clear hg hz
  have r0 : -3 < n.tmod 3 ∧ n.tmod 3 < 3 := ⟨by have := Int.lt_tmod_of_pos n (show (0:Int) < 3 by omega); omega, Int.tmod_lt_of_pos n (by omega)⟩
  have q1 : IntKind.i64.wrap (n.tmod 3) = n.tmod 3 := IntWalk.i64_in _ (by omega)
  obtain ⟨r, hr⟩ : ∃ r, n.tmod 3 = r := ⟨_, rfl⟩
  rw [hr] at r0 q1
  obtain ⟨q, hq2, hqr⟩ : ∃ q : Nat, q ≤ 2 ∧ ((0 ≤ r ∧ r = q) ∨ (r < 0 ∧ r = -(q : Int))) := by
    rcases Int.lt_or_le r 0 with h | h
    · exact ⟨(-r).toNat, by omega, .inr ⟨h, by omega⟩⟩
    · exact ⟨r.toNat, by omega, .inl ⟨h, by omega⟩⟩
  obtain ⟨m, hmq⟩ : ∃ m : Nat, m = 65535 + q := ⟨_, rfl⟩
  have hm1 : wrap64 (65535 + (q : Int)) = (m : Int) := by rw [IntWalk.wrap64_in _ (by omega)]; omega
  have hle : m ≤ 1000000 := by omega
  have hmk := run_make_u8 m hle
  have OWN := hid (own_made_u8 m hle)
  have MQ := hid (And.intro hmq hq2)
  have hdec : (decide (r < 0) = true ∧ wrap64 (-r) = (q : Int)) ∨ r = q := by
    rcases hqr with ⟨h, h'⟩ | ⟨h, h'⟩
    · exact .inr h'
    · exact .inl ⟨by simpa using h, by rw [IntWalk.wrap64_in _ (by omega)]; omega⟩
  clear r0 hqr hmq hq2 hle
  rcases hdec with ⟨hr1, hr2⟩ | rfl
  all_goals
    go_enter Tryd.func3, Tryd.ntmps3
    go_wp2_with fail
    refine (ufirst_any _ HG.out.1).mono ?_
    rintro e w1 ⟨rfl, h1⟩
    have B1 := hid h1
    have I1 := hid (And.intro (OWN.out w1 w1.heap.size (Nat.le_refl _)) (h1.alloc h1.size (.cells (madeCells #[.int .u8 0] m) 5)))
    clear h1
    go_wp2_with fail
    go_loopg [9] m (fun k i wr => ∃ (j : Nat) (cur : List UInt8), j + k = m ∧ i = .int .i64 j ∧ cur.length = m ∧ (∀ i, i < j → cur[i]? = some xb) ∧ wr.ownsRow w1.heap.size 5 1 (.slice (some ⟨w1.heap.size, 0, none⟩) m m) m (cur.map byteV) ∧ Only (· = w1.heap.size) (w1.alloc (.cells (madeCells #[.int .u8 0] m) 5)) wr)
    case atStart => exact ⟨0, List.replicate m 0, by omega, rfl, by simp, fun i hi => absurd hi (by omega), I1.out.1, Only.refl _ _⟩
    case round =>
      obtain ⟨j, cur, hj, rfl, hcl, hall, hown, ho⟩ := hrel
      by_cases hlt : j < m
      · have hx := hown.cellAt j (by omega)
        have fx := hown.frozenAt j
        obtain ⟨q0, hq0⟩ : ∃ q, cur[j]? = some q := ⟨cur[j]'(by omega), List.getElem?_eq_getElem (by omega)⟩
        simp [hq0, byteV] at hx
        have j0 : (0 : Int) ≤ (j : Int) := by omega
        have j1 : (j : Int) < (m : Int) := by omega
        have j2 : (j : Int) ≤ 70000 := by have := MQ.out; omega
        have XX := hid (And.intro hown (And.intro ho (And.intro hcl (And.intro hj (And.intro hall hlt)))))
        clear hown ho hq0 hcl hj hall
        go_wp2_with fail
        obtain ⟨hown, ho, hcl, hj, hall, hlt2⟩ := XX.out
        go_roundg (gk - 1)
        case measure => omega
        case rel =>
          refine ⟨j + 1, cur.set j xb, by omega, by go_num, by simpa using hcl, ?_, ?_, ho.put (by rfl) j _⟩
          · exact set_step hall (by omega)
          · have := (hown.stored j (byteV xb)).1
            rw [map_set_byteV] at this
            rw [← HZ.out]
            exact this
      · obtain rfl : j = m := by omega
        have hcur := all_same hcl hall
        subst hcur
        have hbw : Below w.heap.size w wr := by
          have hB := I1.out.2
          exact ((Only.of_below (S := fun k => w.heap.size ≤ k) hB).then ho (fun i hi hs => by have := B1.out.size; omega)).below (Nat.le_refl _)
        have G := hid (LG.mk (HG.out.1.below hbw HG.out.2) hbw (Byt.of_own (bs := List.replicate j xb) hown (by simp)))
        clear hown ho hcl hall hbw hj hlt I1
        go_wp2_with fail
        have hbe : (List.replicate j xb).length = j := by simp
        by_cases hk : 1 ≤ k ∧ k ≤ 255
        · obtain ⟨kn, rfl⟩ := Int.eq_ofNat_of_zero_le (show 0 ≤ k by omega)
          by_cases hq : q = 2
          · subst hq
            have hno : makeNo kn (List.replicate j xb).length = 5 := by
              have := MQ.out
              unfold makeNo
              rw [if_neg (by omega), if_pos (by omega)]
            refine (make_no kn _ _ _ (by exact G.out.d) (by rw [hno]; decide)).mono ?_
            rw [hno]
            rintro e w3 ⟨rfl, rfl⟩
            have hk1 : decide ((kn : Int) < 1) = false := by simp; omega
            have hk2 : decide ((255 : Int) < kn) = false := by simp; omega
            go_wp2_with fail
            refine (ufirst_any _ (by exact G.out.et)).mono ?_
            rintro e w4 ⟨rfl, h4⟩
            have G4 := hid (G.out.step h4)
            clear h4
            go_wp2_with fail
            refine (fail_any 5 _).mono ?_
            rintro e w5 ⟨rfl, hb⟩
            have G5 := hid (G4.out.step hb)
            clear hb
            go_wp2_with fail
            refine (err_same 5 _ (by exact G5.out.et)).mono ?_
            rintro e w6 ⟨rfl, hb⟩
            have G6 := hid (G5.out.step hb)
            clear hb
            go_wp2_with fail
            go_ret
            exact ⟨rfl, G6.out.bel⟩
          · have hl : j ≤ 65536 := by have := MQ.out; omega
            refine (made_unit kn _ (List.replicate j xb) _ (by exact G.out.d) (by omega) (by omega) (by omega)).mono ?_
            have hU := nextU_made (k := kn) (d := List.replicate j xb) (by omega) (by omega)
            have hUl := unitBytes_len kn (List.replicate j xb) (by omega)
            rw [hbe] at hU hUl
            generalize unitBytes kn (List.replicate j xb) = ub at *
            rintro e w3 ⟨g, cap, rfl, ho, hb⟩
            have G3 := hid (G.out.step hb)
            have UB := hid (And.intro (Byt.of_own (bs := ub) ho rfl) (And.intro hUl (And.intro hU hl)))
            clear hUl hU hl hbe
            have hk1 : decide ((kn : Int) < 1) = false := by simp; omega
            have hk2 : decide ((255 : Int) < kn) = false := by simp; omega
            clear ho hb
            go_wp2_with fail
            refine (next_any _ ub 0 _ (by exact UB.out.1) (by have := UB.out; omega)).mono ?_
            unfold NextRes
            rw [UB.out.2.2.1]
            rintro e w4 ⟨dv, he, ho, hb⟩
            dsimp only at he ho
            subst he
            obtain ⟨A4, c4, rfl⟩ := own_slice ho
            have G4 := hid (And.intro (G3.out.step hb) (Byt.of_own ho rfl))
            clear ho hb
            have G4' := hid (LG.step (G4.out.1) ((Below.refl _ _).alloc (Nat.le_refl _) (.cells #[.int .i64 kn, .slice A4 j c4, .int .i64 0, .int .i64 (j + 8)] 35)))
            have V4' := hid (And.intro (G4.out.2.alloc (.cells #[.int .i64 kn, .slice A4 j c4, .int .i64 0, .int .i64 (j + 8)] 35)) (Blk.new w4 35 #[.int .i64 kn, .slice A4 j c4, .int .i64 0, .int .i64 (j + 8)]))
            clear G4
            go_wp2_with fail
            refine (ufirst_any _ (by exact G4'.out.et)).mono ?_
            rintro e w5 ⟨rfl, h5⟩
            have G5 := hid (G4'.out.step h5)
            have V5 := hid (And.intro (V4'.out.1.below h5) (V4'.out.2.below h5 (by simp)))
            have hul := UB.out.2.1
            have u0 := V5.out.2.cell 0
            have u1 := V5.out.2.cell 1
            have u3 := V5.out.2.cell 3
            simp at u0 u1 u3
            clear h5
            go_wp2_with fail
            refine (size_any j _ (by omega) (by have := UB.out; omega)).mono ?_
            rintro e w6 ⟨rfl, rfl⟩
            have hjb : (j : Int) ≤ 65536 := by have := UB.out; omega
            go_wp2_with fail
            refine (bytes_same (bs := List.replicate j xb) (by simpa using V5.out.1.from_) (by simpa using G5.out.d.from_)).mono ?_
            rintro e w7 ⟨rfl, rfl⟩
            go_wp2_with fail
            go_ret
            exact ⟨rfl, G5.out.bel⟩
        · have hno : makeNo k (List.replicate j xb).length = 13 := by
            have := MQ.out
            unfold makeNo
            rw [if_pos (by omega)]
          refine (make_no k _ _ _ (by exact G.out.d) (by rw [hno]; decide)).mono ?_
          rw [hno]
          rintro e w3 ⟨rfl, rfl⟩
          by_cases hk1 : k < 1
          · go_wp2_with fail
            refine (ufirst_any _ (by exact G.out.et)).mono ?_
            rintro e w4 ⟨rfl, h4⟩
            have G4 := hid (G.out.step h4)
            clear h4
            go_wp2_with fail
            refine (fail_any 13 _).mono ?_
            rintro e w5 ⟨rfl, hb⟩
            have G5 := hid (G4.out.step hb)
            clear hb
            go_wp2_with fail
            refine (err_same 13 _ (by exact G5.out.et)).mono ?_
            rintro e w6 ⟨rfl, hb⟩
            have G6 := hid (G5.out.step hb)
            clear hb
            go_wp2_with fail
            go_ret
            exact ⟨rfl, G6.out.bel⟩
          · have hk2 : 255 < k := by omega
            have hk3 : decide (k < 1) = false := by simp; omega
            go_wp2_with fail
            refine (ufirst_any _ (by exact G.out.et)).mono ?_
            rintro e w4 ⟨rfl, h4⟩
            have G4 := hid (G.out.step h4)
            clear h4
            go_wp2_with fail
            refine (fail_any 13 _).mono ?_
            rintro e w5 ⟨rfl, hb⟩
            have G5 := hid (G4.out.step hb)
            clear hb
            go_wp2_with fail
            refine (err_same 13 _ (by exact G5.out.et)).mono ?_
            rintro e w6 ⟨rfl, hb⟩
            have G6 := hid (G5.out.step hb)
            clear hb
            go_wp2_with fail
            go_ret
            exact ⟨rfl, G6.out.bel⟩
end Go.Proofs.YtabklmkdneoaaaaDoor
