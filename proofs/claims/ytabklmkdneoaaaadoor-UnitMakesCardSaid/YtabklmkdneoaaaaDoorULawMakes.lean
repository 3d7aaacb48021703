/- UnitMakes: the walk. -/
import Derived.Test.YtabklmkdneoaaaaDoorUMakeAny
import Derived.OpenShut
namespace Go.Proofs.YtabklmkdneoaaaaDoor
open Go.RowKit

/-- What UnitMakes holds. -/
structure MK (w : World) (eb : Nat) (cc : Int) (i b c f d : Value) (bs mb fb : List UInt8) (W : World) : Prop where
  et : ErrT W
  bel : Below w.heap.size w W
  e : Blk W eb 32 #[.int .i64 cc, .slice none 0 0]
  i : Byt W i bs
  b : Byt W b mb
  c : Byt W c mb
  f : Byt W f fb
  d : Byt W d bs
theorem MK.step {w W W' : World} {eb : Nat} {cc : Int} {i b c f d : Value} {bs mb fb : List UInt8} (h : MK w eb cc i b c f d bs mb fb W) (hb : Below W.heap.size W W') : MK w eb cc i b c f d bs mb fb W' :=
  ⟨h.et.below hb h.et.lt, h.bel.trans (hb.mono h.bel.size), h.e.below hb h.e.lt, h.i.below hb, h.b.below hb, h.c.below hb, h.f.below hb, h.d.below hb⟩
theorem Byt.zeros {w : World} {g m c : Nat} (h : Byt w (.slice (some ⟨g, 0, none⟩) m c) (List.replicate m 0)) {j : Nat} (hj : j < m) : w.cell? ⟨g, j, none⟩ = some (.int .u8 0) := by
  obtain ⟨A', c', e, hle, hc⟩ := h
  injection e with e1 e2 e3
  obtain ⟨b, off, e4, hb, hcell⟩ := hc (by rw [Ne, List.replicate_eq_nil_iff]; omega)
  rw [e4] at e1
  injection e1 with e1
  injection e1 with e5 e6
  subst e5 e6
  have := hcell j 0 (by rw [List.getElem?_replicate, if_pos hj])
  simpa using this
set_option maxRecDepth 100000 in
set_option maxHeartbeats 4000000 in
theorem umakes_walk (x : Value) (k : Int) (bs : List UInt8) (n : Int) (w : World) (_ : (Lit.int .i64 k).wf = true) (hx : Byt w x bs) (_ : bs.length ≤ maxLen) (hnw : (Lit.int .i64 n).wf = true) (hg : ErrT w) :
    Calls Tryd.prog 6 #[.int .i64 k, x, .int .i64 n] w fun e w' => e = .returned (.bool true) ∧ Below w.heap.size w w' := by
  obtain ⟨A, c, rfl, hc⟩ := hx.form
  have X := hid hx
  have HG := hid (And.intro hg hg.lt)
  clear hx hg
  by_cases hbig : 20000 < bs.length
  · have hb' : decide ((20000 : Int) < (bs.length : Int)) = true := by simp; omega
    clear hbig
    go_enter Tryd.func6, Tryd.ntmps6
    go_wp2_with fail
    refine (ufirst_any _ HG.out.1).mono ?_
    rintro e w1 ⟨rfl, h1⟩
    have B1 := hid h1
    clear h1
    go_wp2_with fail
    refine (ufirst_any _ (HG.out.1.below B1.out HG.out.2)).mono ?_
    rintro e w2 ⟨rfl, h1⟩
    have B2 := hid h1
    clear h1
    go_wp2_with fail
    go_ret
    exact ⟨rfl, B1.out.trans (B2.out.mono B1.out.size)⟩
  · have hb' : decide ((20000 : Int) < (bs.length : Int)) = false := by simp; omega
    have HL := hid (show bs.length ≤ 1000000 by omega)
    clear hbig
    have hn2 : -9223372036854775808 ≤ n ∧ n ≤ 9223372036854775807 := bounds_i64 hnw
    have HN2 := hid hn2
    clear hnw hn2
    go_enter Tryd.func6, Tryd.ntmps6
    go_wp2_with fail
    refine (ufirst_any _ HG.out.1).mono ?_
    rintro e w1 ⟨rfl, h1⟩
    have B1 := hid h1
    clear h1
    go_wp2_with fail
    refine (copy_bytes _ bs _ (X.out.below B1.out).from_ (by have := HL.out; omega)).mono ?_
    rintro e w2 ⟨g, cap, rfl, ho, h2⟩
    have B2 := hid (B1.out.trans (h2.mono B1.out.size))
    have I2 := hid (Byt.of_own ho rfl)
    clear ho h2
    go_wp2_with fail
    refine (make_any k _ bs _ (by exact I2.out)).mono ?_
    rintro e w3 ⟨bv, rfl, ho, h3⟩
    obtain ⟨A3, c3, rfl⟩ := own_slice ho
    have B3 := hid (B2.out.trans (h3.mono B2.out.size))
    have I3 := hid (And.intro (I2.out.below h3) (Byt.of_own ho rfl))
    clear ho h3
    go_wp2_with fail
    refine (rmake_any k _ bs _ (by exact X.out.below B3.out)).mono ?_
    rintro e w4 ⟨cv, rfl, ho, h4⟩
    obtain ⟨A4, c4, rfl⟩ := own_slice ho
    have hcc : ∃ cc, cc = makeNo k bs.length := ⟨_, rfl⟩
    generalize makeNo k bs.length = cc at *
    have B4 := hid (B3.out.trans (h4.mono B3.out.size))
    have I4 := hid (And.intro (I3.out.1.below h4) (And.intro (I3.out.2.below h4) (Byt.of_own ho rfl)))
    clear ho h4 hcc
    go_wp2_with fail
    have hb5 : Below w4.heap.size w4 (w4.alloc (.cells #[.int .i64 cc, .slice none 0 0] 32)) := (Below.refl _ _).alloc (Nat.le_refl _) _
    have B5 := hid (And.intro (B4.out.trans (hb5.mono B4.out.size)) (And.intro (I4.out.1.below hb5) (And.intro (I4.out.2.1.below hb5) (And.intro (I4.out.2.2.below hb5) (Blk.new w4 32 #[.int .i64 cc, .slice none 0 0])))))
    clear hb5
    refine (fill_any n _).mono ?_
    rintro e w6 ⟨m, hm, rfl, ho, h6⟩
    have hb6 := B5.out.1.trans (h6.mono B5.out.1.size)
    have M6 := hid (MK.mk (HG.out.1.below hb6 HG.out.2) hb6 (B5.out.2.2.2.2.below h6 (by simp)) (B5.out.2.1.below h6) (B5.out.2.2.1.below h6) (B5.out.2.2.2.1.below h6) (Byt.of_own (bs := List.replicate m 0) ho (by simp)) (X.out.below hb6))
    have hm2 : min (max n 0) 65536 = (m : Int) := hm.symm
    have HM := hid (And.intro hm2 (show m ≤ 65536 by omega))
    clear ho h6 hb6 hm hm2
    go_wp2_with fail
    refine (bytes_same (bs := mkU k bs) (by exact M6.out.b.from_) (by exact M6.out.c.from_)).mono ?_
    rintro e w7 ⟨rfl, rfl⟩
    have e0 := M6.out.e.cell 0
    have e1 := M6.out.e.cell 1
    simp at e0 e1
    go_wp2_with fail
    refine (err_same cc _ (by exact M6.out.et)).mono ?_
    rintro e w8 ⟨rfl, h8⟩
    have M8 := hid (M6.out.step h8)
    clear h8 e0 e1 M6
    go_wp2_with fail
    refine (bytes_same (bs := bs) (by exact M8.out.i.from_) (by exact M8.out.d.from_)).mono ?_
    rintro e w9 ⟨rfl, rfl⟩
    go_wp2_with fail
    refine (usum_any _ bs _ (by exact M8.out.d) (by have := HL.out; omega)).mono ?_
    rintro e w10 ⟨rfl, rfl⟩
    go_wp2_with fail
    refine (rsum_any _ bs _ (by exact M8.out.d) (by have := HL.out; omega)).mono ?_
    rintro e w11 ⟨rfl, rfl⟩
    go_wp2_with fail
    go_loopg [13, 14] m (fun k sv i wr => ∃ j : Nat, j + k = m ∧ i = .int .i64 j ∧ sv = .bool true ∧ wr = w9)
    case atStart => exact ⟨0, by omega, rfl, rfl, rfl⟩
    case round =>
      obtain ⟨j, hj, rfl, rfl, rfl⟩ := hrel
      have hm6 := HM.out.2
      by_cases hlt : j < m
      · have c0 := M8.out.f.zeros hlt
        simp at c0
        go_wp2_with fail
        go_roundg (gk - 1)
        case measure => omega
        case rel => exact ⟨j + 1, by omega, by go_num, rfl, rfl⟩
      · obtain rfl : j = m := by omega
        clear hlt hj
        go_wp2_with fail
        refine (ufirst_any _ (by exact M8.out.et)).mono ?_
        rintro e w12 ⟨rfl, h12⟩
        have B12 := hid (M8.out.bel.trans (h12.mono M8.out.bel.size))
        clear h12
        have hm2 := HM.out.1
        have hx2 := HN2.out
        by_cases hn : n ≤ 4611686018427387904
        · have hn' : decide (4611686018427387904 < n) = false := by simp; omega
          have hw8 : IntKind.i64.wrap (n + 8) = n + 8 := IntWalk.i64_in _ (by omega)
          go_wp2_with fail
          refine (size_any n _ (by omega) hn).mono ?_
          rintro e w13 ⟨rfl, rfl⟩
          go_wp2_with fail
          go_ret
          exact ⟨rfl, B12.out⟩
        · have hn' : decide (4611686018427387904 < n) = true := by simp; omega
          go_wp2_with fail
          go_ret
          exact ⟨rfl, B12.out⟩
end Go.Proofs.YtabklmkdneoaaaaDoor
