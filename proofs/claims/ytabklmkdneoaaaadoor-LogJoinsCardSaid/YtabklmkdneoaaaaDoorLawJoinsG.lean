/- LogJoins: the walk. -/
import Derived.Test.YtabklmkdneoaaaaDoorGPacked
namespace Go.Proofs.YtabklmkdneoaaaaDoor
open Go.RowKit

theorem gjoins_big (A B : Option Addr) (n m c d : Nat) (w : World) (hg : ErrT w) (hs : 400 < n ∨ 20000 < m) :
    Calls Tryd.prog 19 #[.slice A n c, .slice B m d] w fun e w' => e = .returned (.bool true) ∧ Below w.heap.size w w' := by
  have HG := hid (And.intro hg hg.lt)
  have hcase : decide ((400 : Int) < (n : Int)) = true ∨ (decide ((400 : Int) < (n : Int)) = false ∧ decide ((20000 : Int) < (m : Int)) = true) := by
    simp only [decide_eq_true_eq, decide_eq_false_iff_not]
    omega
  clear hg hs
  rcases hcase with h1 | ⟨h1, h2⟩
  all_goals
    go_enter Tryd.func19, Tryd.ntmps19
    go_wp2_with fail
    refine (gfirst_any _ HG.out.1).mono ?_
    rintro e w1 ⟨rfl, h1⟩
    have B1 := hid h1
    clear h1
    go_wp2_with fail
    refine (gfirst_any _ (HG.out.1.below B1.out HG.out.2)).mono ?_
    rintro e w2 ⟨rfl, h1⟩
    have B2 := hid h1
    clear h1
    go_wp2_with fail
    go_ret
    exact ⟨rfl, B1.out.trans (B2.out.mono B1.out.size)⟩
/-- What LogJoins holds in its loop. -/
structure JG (w w2 : World) (x y ov : Value) (bs : List UInt8) (rs gs : List RecS) (W : World) : Prop where
  et : ErrT W
  bel : Below w.heap.size w W
  b2 : Below w2.heap.size w2 W
  y : Byt W y bs
  x : RdR W x rs
  out : W.ownsRow w2.heap.size 5 1 ov (packs gs).length ((packs gs).map byteV)
theorem JG.step {w w2 : World} {x y ov : Value} {bs : List UInt8} {rs gs : List RecS} {W W' : World} (h : JG w w2 x y ov bs rs gs W) (hb : Below W.heap.size W W') : JG w w2 x y ov bs rs gs W' :=
  ⟨h.et.below hb h.et.lt, h.bel.trans (hb.mono h.bel.size), h.b2.trans (hb.mono h.b2.size), h.y.below hb, h.x.below hb, own_below h.out hb⟩
set_option maxRecDepth 100000 in
set_option maxHeartbeats 8000000 in
theorem gjoins_walk (x y : Value) (rs : List RecS) (bs : List UInt8) (w : World) (hx : RdR w x rs) (_ : rs.length ≤ maxLen) (hy : Byt w y bs) (_ : bs.length ≤ maxLen) (hg : ErrT w) :
    Calls Tryd.prog 19 #[x, y] w fun e w' => e = .returned (.bool true) ∧ Below w.heap.size w w' := by
  obtain ⟨A, c, rfl, hc⟩ := hx.form
  obtain ⟨B, d, rfl, hd⟩ := hy.form
  by_cases hbig : 400 < rs.length ∨ 20000 < bs.length
  · exact gjoins_big A B rs.length bs.length c d w hg hbig
  · have hb1 : decide ((400 : Int) < (rs.length : Int)) = false := by simp; omega
    have hb2 : decide ((20000 : Int) < (bs.length : Int)) = false := by simp; omega
    obtain ⟨i0, hi0, hz0, hz1, hz2⟩ := info_parts info_u8
    have IP := hid (And.intro hi0 (And.intro hz0 (And.intro hz1 hz2)))
    have HL := hid (show rs.length ≤ 400 ∧ bs.length ≤ 20000 by omega)
    have HG := hid (And.intro hg hg.lt)
    have X := hid (And.intro hx hy)
    clear hbig hg hx hc hy hd hi0 hz0 hz1 hz2
    go_enter Tryd.func19, Tryd.ntmps19
    go_wp2_with fail
    refine (gfirst_any _ HG.out.1).mono ?_
    rintro e w1 ⟨rfl, h1⟩
    have G1 := hid (show JG w w1 (.slice A rs.length c) (.slice B bs.length d) (.slice none 0 0) bs rs [] w1 from ⟨HG.out.1.below h1 HG.out.2, h1, Below.refl _ _, X.out.2.below h1, X.out.1.below h1, World.ownsRow_nil w1 w1.heap.size 5 1⟩)
    clear h1
    go_wp2_with fail
    go_loopg [5, 6, 7] rs.length (fun k ov nv iv wr => ∃ j : Nat, j + k = rs.length ∧ iv = .int .i64 j ∧ nv = .int .i64 (goods (rs.take j)).length ∧ JG w w1 (.slice A rs.length c) (.slice B bs.length d) ov bs rs (goods (rs.take j)) wr)
    case atStart => exact ⟨0, by omega, rfl, rfl, G1.out⟩
    case round =>
      obtain ⟨j, hj, rfl, rfl, hR⟩ := hrel
      by_cases hlt : j < rs.length
      · obtain ⟨r, hr⟩ : ∃ r, rs[j]? = some r := ⟨rs[j], List.getElem?_eq_getElem hlt⟩
        have hgl : (goods (rs.take j)).length ≤ j := Nat.le_trans (goods_len _) (by rw [List.length_take]; omega)
        have hpb := packs_bound (goods (rs.take j))
        have hpu := packU_len r
        have HP := hid (fun W => gpack_any r W)
        unfold PackRes at HP
        obtain ⟨b1, o1, rfl, _, p0, p1, p2, p3, p4⟩ := hR.x.at_ hr
        have k0 : (0 : Int) ≤ (j : Int) := by omega
        have k1 : (j : Int) < (rs.length : Int) := by omega
        have R0 := hid hR
        have hjl : j ≤ 400 := by have := HL.out; omega
        cases hm : mayR r
        · have hno : packNo r ≠ 0 := fun e => by have := (packNo_may r).1 e; rw [hm] at this; cases this
          have hgs := goods_no hr hm
          have hcv : codeV (packNo r) = .iface 29 (.int .i64 (packNo r)) := by unfold codeV; rw [if_neg hno]
          rw [hcv] at HP
          obtain ⟨rk, r1, r2, r3, r4⟩ := r
          dsimp only at p0 p1 p2 p3 p4
          unfold RecS.val at HP
          dsimp only at HP
          have FF := hid (And.intro hj (And.intro hgs hgl))
          clear hR hj hr hno hgs hgl hpb hpu hcv hm
          go_wp2_with fail
          refine (HP.out _).mono ?_
          rintro e w4 ⟨A4, c4, rfl, _, h4⟩
          have R4 := hid (R0.out.step h4)
          clear h4 p0 p1 p2 p3 p4
          go_wp2_with fail
          have hj := FF.out.1
          go_roundg (gk - 1)
          case measure => omega
          case rel => exact ⟨j + 1, by omega, by go_num, by rw [FF.out.2.1], by rw [FF.out.2.1]; exact R4.out⟩
        · have hno : packNo r = 0 := (packNo_may r).2 hm
          have hgs := goods_yes hr hm
          have hps := packs_snoc (goods (rs.take j)) r
          rw [hno, show codeV 0 = .nilIface from rfl] at HP
          obtain ⟨rk, r1, r2, r3, r4⟩ := r
          dsimp only at p0 p1 p2 p3 p4
          unfold RecS.val at HP
          dsimp only at HP
          generalize packU ⟨rk, r1, r2, r3, r4⟩ = pu at *
          have FF := hid (And.intro hj (And.intro hgs (And.intro hgl (And.intro hps (And.intro hpb hpu)))))
          clear hR hj hr hno hgs hpb hpu hm hps
          go_wp2_with fail
          refine (HP.out _).mono ?_
          rintro e w4 ⟨A4, c4, rfl, ho, h4⟩
          have R4 := hid (R0.out.step h4)
          have O4 := hid (Byt.of_own ho rfl)
          clear ho h4 p0 p1 p2 p3 p4
          have hbb := R4.out.b2.size
          go_wp2_with (at_builtin; refine wpList_append_from _ rfl (.tmp 42) (.tmp 43) _ rfl w1.heap.size 5 i0 (.int .u8 0) 1 1 Tryd.underlying23 IP.out.1 IP.out.2.1 IP.out.2.2.1 IP.out.2.2.2 rfl (by omega) u5 (packs (goods (rs.take j))).length ((packs (goods (rs.take j))).map byteV) rfl (by exact R4.out.out) (.slice A4 pu.length c4) pu.length (pu.map byteV) rfl (by exact O4.out.from_) (one_bytes _) (by have := FF.out; unfold maxLen; omega) (by have := FF.out; omega) (by exact hbb) ?_; intro v6 w6 hown hgrow hat)
          have hb6 : Below w1.heap.size w1 w6 := R4.out.b2.grown hgrow hbb (fun k hk => (R4.out.out.lt k hk).1)
          have R6 := hid (And.intro hown hb6)
          clear hown hgrow hat hb6
          go_wp2_with fail
          have hj := FF.out.1
          have hgl2 := FF.out.2.2.1
          go_roundg (gk - 1)
          case measure => omega
          case rel =>
            refine ⟨j + 1, by omega, by go_num, ?_, ?_⟩
            · rw [FF.out.2.1, List.length_append]; rfl
            · rw [FF.out.2.1]
              refine ⟨G1.out.et.below R6.out.2 G1.out.et.lt, G1.out.bel.trans (R6.out.2.mono G1.out.bel.size), R6.out.2, G1.out.y.below R6.out.2, G1.out.x.below R6.out.2, ?_⟩
              rw [FF.out.2.2.2.1, List.length_append, List.map_append]
              exact R6.out.1
      · have hjr : j = rs.length := by omega
        have hge : rs.length ≤ j := by omega
        have hn : decide ((j : Int) < (rs.length : Int)) = false := by simp; omega
        have hgt : rs.take j = rs := by rw [hjr, List.take_length]
        rw [hgt] at hR ⊢
        have hgl := goods_len rs
        have hpb := packs_bound (goods rs)
        have hjn := scan_join (goods rs) (goods_may rs) bs
        have hsl := And.intro (scanAll_len bs) (show (scanAll bs).2 ≤ bs.length from (scan_again bs bs.length 0 (by omega) (by omega)).2.1)
        obtain ⟨gs, hgs⟩ : ∃ gs, gs = goods rs := ⟨_, rfl⟩
        rw [← hgs] at hR hgl hpb hjn ⊢
        have hpk : gs.flatMap packU = packs gs := rfl
        rw [hpk] at hjn
        have R0 := hid hR
        have HS := hid (fun W (hW : Byt W (.slice B bs.length d) bs) => gscan_any (.slice B bs.length d) bs W hW (by have := HL.out; omega))
        unfold ScanRes at HS
        have HA := hid (fun W x (hW : Byt W x (packs gs ++ bs)) => gscan_any x (packs gs ++ bs) W hW (by have := HL.out; rw [List.length_append]; omega))
        unfold ScanRes at HA
        rw [hjn] at HA
        obtain ⟨ms, n, hsc⟩ : ∃ ms n, scanAll bs = (ms, n) := ⟨_, _, rfl⟩
        rw [hsc] at hsl HS HA
        dsimp only at hsl HS HA
        obtain ⟨A7, c7, rfl⟩ := own_slice hR.out
        have FF := hid (And.intro hgl (And.intro hpb hsl))
        clear hR hgl hpb hjn hsl hsc hpk hgt hjr hj hgs
        go_wp2_with fail
        refine (HS.out _ R0.out.y).mono ?_
        rintro e w3 ⟨mv, rfl, ho, h3⟩
        obtain ⟨A3, c3, rfl⟩ := own_slice ho
        have R3 := hid (R0.out.step h3)
        have M3 := hid (RdR.of_own ho)
        clear ho h3
        go_wp2_with fail
        refine (copy_bytes _ (packs gs) _ (From.of_own R3.out.out) (by have := FF.out; have := HL.out; omega)).mono ?_
        rintro e w4 ⟨g4, cap4, rfl, ho, h4⟩
        have R4 := hid (R3.out.step h4)
        have C4 := hid (And.intro ho h4)
        clear ho h4
        go_wp2_with (at_builtin; refine wpList_append_form _ rfl (.tmp 54) (.tmp 55) _ rfl w3.heap.size 5 i0 (.int .u8 0) 1 1 Tryd.underlying23 IP.out.1 IP.out.2.1 IP.out.2.2.1 IP.out.2.2.2 rfl (by omega) (.slice (some ⟨g4, 0, none⟩) (packs gs).length cap4) (packs gs).length ((packs gs).map byteV) rfl (by exact C4.out.1) (.slice B bs.length d) bs.length (bs.map byteV) rfl (by exact R4.out.y.from_) (one_bytes bs) (.inl (by simp [Value.ownBlock])) (by have := HL.out; have := FF.out; unfold maxLen; omega) (by have := HL.out; have := FF.out; omega) (by exact C4.out.2.size) ((packs gs).length + bs.length) ((packs gs ++ bs).map byteV) rfl (by simp) ?_; intro g5 cap5 w5 hown hgrow hat hlt5)
        have h5 : Below w3.heap.size w3 w5 := C4.out.2.grown hgrow C4.out.2.size (fun k hk => (C4.out.1.lt k hk).1)
        have R5 := hid (R3.out.step h5)
        have M5 := hid (M3.out.below h5)
        have A5 := hid (Byt.of_own (bs := packs gs ++ bs) hown (by simp))
        clear hown hgrow hat hlt5 h5
        refine (HA.out _ _ A5.out).mono ?_
        rintro e w6 ⟨nv, rfl, ho, h6⟩
        have hll : (gs ++ ms).length = gs.length + ms.length := List.length_append
        rw [hll] at ho
        obtain ⟨A6, c6, rfl, hc6⟩ := own_slice_cap ho
        have R6 := hid (R5.out.step h6)
        have M6 := hid (And.intro (M5.out.below h6) (show RdR w6 (.slice A6 (gs.length + ms.length) c6) (gs ++ ms) from RdR.of_own (by rw [hll]; exact ho)))
        have t1 : (((gs.length + ms.length : Nat) : Int) != (gs.length : Int) + (ms.length : Int)) = false := by simp
        have t2 : ((((packs gs).length + n : Nat) : Int) != ((packs gs).length : Int) + (n : Int)) = false := by simp
        have hms : ms.length ≤ 20000 := by have := FF.out.2.2; have := HL.out; omega
        have hnn : n ≤ 20000 := by have := FF.out.2.2; have := HL.out; omega
        have hpp : (packs gs).length ≤ 10000 := by have := FF.out; have := HL.out; omega
        have hgs : gs.length ≤ 400 := by have := FF.out.1; have := HL.out; omega
        clear ho h6 hll
        go_wp2_with fail
        go_loopg [14] ms.length (fun k iv wr => ∃ i : Nat, i + k = ms.length ∧ iv = .int .i64 i ∧ ∃ q, wr = w6.drewN q)
        case atStart => exact ⟨0, by omega, rfl, 0, rfl⟩
        case round =>
          obtain ⟨i, hi, rfl, q, rfl⟩ := hrel
          by_cases hli : i < ms.length
          · obtain ⟨⟨rk, r1, r2, r3, r4⟩, hp⟩ : ∃ p, ms[i]? = some p := ⟨ms[i], List.getElem?_eq_getElem hli⟩
            have hq : (gs ++ ms)[gs.length + i]? = some ⟨rk, r1, r2, r3, r4⟩ := by rw [List.getElem?_append_right (by omega), Nat.add_sub_cancel_left]; exact hp
            obtain ⟨b1, o1, rfl, _, p0, p1, p2, p3, p4⟩ := M6.out.1.at_ hp
            obtain ⟨b2, o2, rfl, _, q0, q1, q2, q3, q4⟩ := M6.out.2.at_ hq
            dsimp only at p0 p1 p2 p3 p4 q0 q1 q2 q3 q4
            have k0 : (0 : Int) ≤ (i : Int) := by omega
            have k1 : (i : Int) < (ms.length : Int) := by omega
            have k2 : (0 : Int) ≤ (gs.length : Int) + (i : Int) := by omega
            have k3 : (gs.length : Int) + (i : Int) < (gs.length : Int) + (ms.length : Int) := by omega
            have k4 : ((gs.length : Int) + (i : Int)).toNat = gs.length + i := by omega
            have HJ := hid (And.intro hi hli)
            clear hi hp hq
            go_wp2_with fail
            go_quiet (fail)
            go_wp2_with fail
            have hi := HJ.out
            go_roundg (gk - 1)
            case measure => omega
            case rel => exact ⟨i + 1, by omega, by go_num, _, rfl⟩
          · have hge2 : ms.length ≤ i := by omega
            have hn3 : decide ((i : Int) < (ms.length : Int)) = false := by simp; omega
            go_wp2_with fail
            refine (gfirst_any _ (by exact (R6.out.step (bel_drewN _ _)).et)).mono ?_
            rintro e w9 ⟨rfl, h9⟩
            have R9 := hid ((R6.out.step (bel_drewN _ _)).step h9)
            clear h9
            go_wp2_with fail
            go_ret
            exact ⟨rfl, R9.out.bel⟩
end Go.Proofs.YtabklmkdneoaaaaDoor
