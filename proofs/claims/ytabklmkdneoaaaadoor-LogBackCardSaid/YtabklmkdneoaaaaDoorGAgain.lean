/- LogAgain: the walk. -/
import Derived.Test.YtabklmkdneoaaaaDoorGPlain
namespace Go.Proofs.YtabklmkdneoaaaaDoor
open Go.RowKit

theorem gagain_big (A : Option Addr) (n c : Nat) (w : World) (hg : ErrT w) (hs : 20000 < n) :
    Calls Tryd.prog 18 #[.slice A n c] w fun e w' => e = .returned (.bool true) ∧ Below w.heap.size w w' := by
  have HG := hid (And.intro hg hg.lt)
  have hb' : decide ((20000 : Int) < (n : Int)) = true := by simp; omega
  clear hg hs
  go_enter Tryd.func18, Tryd.ntmps18
  go_wp2_with fail
  refine (gfirst_any _ HG.out.1).mono ?_
  rintro e w1 ⟨rfl, h1⟩
  have B1 := hid h1
  clear h1
  go_wp2_with fail
  refine (gfirst_any _ (HG.out.1.below B1.out HG.out.2)).mono ?_
  rintro e w2 ⟨rfl, h1⟩
  have B2 := hid h1
  clear h1
  go_wp2_with fail
  go_ret
  exact ⟨rfl, B1.out.trans (B2.out.mono B1.out.size)⟩
def packs (rs : List RecS) : List UInt8 := rs.flatMap packU
theorem packs_succ {rs : List RecS} {j : Nat} {r : RecS} (h : rs[j]? = some r) : packs (rs.take (j + 1)) = packs (rs.take j) ++ packU r := by
  unfold packs
  rw [List.take_add_one, h]
  simp
theorem packs_len (rs : List RecS) (j : Nat) : (packs (rs.take j)).length ≤ (packs rs).length := by
  have h : packs rs = packs (rs.take j) ++ packs (rs.drop j) := by
    unfold packs
    rw [← List.flatMap_append, List.take_append_drop]
  rw [h, List.length_append]
  omega
theorem unitBytes_le9 (k : Nat) (d : List UInt8) : (unitBytes k d).length ≤ d.length + 8 := by
  by_cases h0 : k = 0
  · subst h0; show ([0] : List UInt8).length ≤ _; simp
  · rw [unitBytes_len _ _ (by omega)]; omega
theorem packU_len (r : RecS) : (packU r).length ≤ 17 := by
  unfold packU
  split
  · have h1 := unitBytes_le9 r.kind.toNat (recBytes r)
    have h2 := recData_len r.kind r.sum.toNat r.num.toNat r.len.toNat r.code.toNat
    have h3 : (recBytes r).length ≤ 9 := h2
    omega
  · simp
/-- What LogAgain holds in its loop. -/
structure AG (w w2 : World) (x lv ov : Value) (bs : List UInt8) (rs : List RecS) (j : Nat) (W : World) : Prop where
  et : ErrT W
  bel : Below w.heap.size w W
  b2 : Below w2.heap.size w2 W
  x : Byt W x bs
  l : RdR W lv rs
  out : W.ownsRow w2.heap.size 5 1 ov (packs (rs.take j)).length ((packs (rs.take j)).map byteV)
theorem AG.step {w w2 : World} {x lv ov : Value} {bs : List UInt8} {rs : List RecS} {j : Nat} {W W' : World} (h : AG w w2 x lv ov bs rs j W) (hb : Below W.heap.size W W') : AG w w2 x lv ov bs rs j W' :=
  ⟨h.et.below hb h.et.lt, h.bel.trans (hb.mono h.bel.size), h.b2.trans (hb.mono h.b2.size), h.x.below hb, h.l.below hb, own_below h.out hb⟩
set_option maxRecDepth 100000 in
set_option maxHeartbeats 4000000 in
theorem gagain_walk (x : Value) (bs : List UInt8) (w : World) (hx : Byt w x bs) (_ : bs.length ≤ maxLen) (hg : ErrT w) :
    Calls Tryd.prog 18 #[x] w fun e w' => e = .returned (.bool true) ∧ Below w.heap.size w w' := by
  obtain ⟨A, c, rfl, hc⟩ := hx.form
  by_cases hbig : 20000 < bs.length
  · exact gagain_big A bs.length c w hg hbig
  · have hb' : decide ((20000 : Int) < (bs.length : Int)) = false := by simp; omega
    obtain ⟨i0, hi0, hz0, hz1, hz2⟩ := info_parts info_u8
    have IP := hid (And.intro hi0 (And.intro hz0 (And.intro hz1 hz2)))
    have HL := hid (show bs.length ≤ 20000 by omega)
    have HG := hid (And.intro hg hg.lt)
    have X := hid hx
    have HC := hid hc
    have HS := hid (fun W (hW : Byt W (.slice A bs.length c) bs) => gscan_any (.slice A bs.length c) bs W hW (by omega))
    have hsl := scanAll_len bs
    have hag := scan_again bs bs.length 0 (by omega) (by omega)
    have hag' : (∀ r ∈ (scanAll bs).1, packNo r = 0 ∧ mayR r = true) ∧ (scanAll bs).2 ≤ bs.length ∧ bs.take (scanAll bs).2 = packs (scanAll bs).1 ∧ ∀ u, nextU bs (scanAll bs).2 = .ok u → (parseR u.kind u.data).1 ≠ 0 := by
      refine ⟨hag.1, hag.2.1, ?_, hag.2.2.2.2⟩
      have := hag.2.2.2.1
      rw [List.take_zero, List.nil_append] at this
      exact this
    clear hag
    unfold ScanRes at HS
    obtain ⟨rs, n, hsc⟩ : ∃ rs n, scanAll bs = (rs, n) := ⟨_, _, rfl⟩
    rw [hsc] at hsl hag' HS
    dsimp only at hsl hag' HS
    have SL := hid (And.intro hsl hag')
    have hnl : n ≤ bs.length := hag'.2.1
    clear hsl hag' hsc hbig hg hx hc hi0 hz0 hz1 hz2
    go_enter Tryd.func18, Tryd.ntmps18
    go_wp2_with fail
    refine (gfirst_any _ HG.out.1).mono ?_
    rintro e w1 ⟨rfl, h1⟩
    have B1 := hid h1
    clear h1
    go_wp2_with fail
    refine (HS.out _ (X.out.below B1.out)).mono ?_
    rintro e w2 ⟨lv, rfl, ho, h2⟩
    obtain ⟨A2, c2, rfl⟩ := own_slice ho
    have B2 := hid (B1.out.trans (h2.mono B1.out.size))
    have G2 := hid (show AG w w2 (.slice A bs.length c) (.slice A2 rs.length c2) (.slice none 0 0) bs rs 0 w2 from ⟨HG.out.1.below B2.out HG.out.2, B2.out, Below.refl _ _, X.out.below B2.out, RdR.of_own ho, by simpa [packs] using World.ownsRow_nil w2 w2.heap.size 5 1⟩)
    clear ho h2
    go_wp2_with fail
    go_loopg [5, 6] rs.length (fun k ov iv wr => ∃ j : Nat, j + k = rs.length ∧ iv = .int .i64 j ∧ AG w w2 (.slice A bs.length c) (.slice A2 rs.length c2) ov bs rs j wr)
    case atStart => exact ⟨0, by omega, rfl, G2.out⟩
    case round =>
      obtain ⟨j, hj, rfl, hR⟩ := hrel
      by_cases hlt : j < rs.length
      · obtain ⟨r, hr⟩ : ∃ r, rs[j]? = some r := ⟨rs[j], List.getElem?_eq_getElem hlt⟩
        obtain ⟨hno, hma⟩ := SL.out.2.1 r (List.mem_of_getElem? hr)
        have hps := packs_succ hr
        have hpl := packs_len rs (j + 1)
        have hul := packU_len r
        have hwl : (packs rs).length ≤ 20000 := by
          rw [← SL.out.2.2.2.1, List.length_take]; have := HL.out; omega
        have HP := hid (fun W => gpack_any r W)
        have HM := hid (fun W => gmay_any r W)
        unfold PackRes at HP
        rw [hno, show codeV 0 = .nilIface from rfl] at HP
        rw [hma] at HM
        obtain ⟨b1, o1, rfl, _, p0, p1, p2, p3, p4⟩ := hR.l.at_ hr
        obtain ⟨rk, r1, r2, r3, r4⟩ := r
        dsimp only at p0 p1 p2 p3 p4
        unfold RecS.val at HP HM
        dsimp only at HP HM
        generalize packU ⟨rk, r1, r2, r3, r4⟩ = pu at *
        have k0 : (0 : Int) ≤ (j : Int) := by omega
        have k1 : (j : Int) < (rs.length : Int) := by omega
        have R0 := hid hR
        have FF := hid (And.intro hj (And.intro hps (And.intro hpl (And.intro hul hwl))))
        have hjl : j ≤ 1000000 := by have := SL.out.1; have := HL.out; omega
        clear hR hj hr hno hma hps hpl hul hwl
        go_wp2_with fail
        refine (HP.out _).mono ?_
        rintro e w4 ⟨A4, c4, rfl, ho, h4⟩
        have R4 := hid (R0.out.step h4)
        have O4 := hid (Byt.of_own ho rfl)
        replace p0 := cell_keep h4 p0
        replace p1 := cell_keep h4 p1
        replace p2 := cell_keep h4 p2
        replace p3 := cell_keep h4 p3
        replace p4 := cell_keep h4 p4
        clear ho h4
        go_wp2_with fail
        refine (HM.out _).mono ?_
        rintro e w5 ⟨rfl, h5⟩
        have R5 := hid (R4.out.step h5)
        have O5 := hid (O4.out.below h5)
        clear h5 p0 p1 p2 p3 p4
        have hbb := R5.out.b2.size
        go_wp2_with (at_builtin; refine wpList_append_from _ rfl (.tmp 48) (.tmp 49) _ rfl w2.heap.size 5 i0 (.int .u8 0) 1 1 Tryd.underlying23 IP.out.1 IP.out.2.1 IP.out.2.2.1 IP.out.2.2.2 rfl (by omega) u5 (packs (rs.take j)).length ((packs (rs.take j)).map byteV) rfl (by exact R5.out.out) (.slice A4 pu.length c4) pu.length (pu.map byteV) rfl (by exact O5.out.from_) (one_bytes _) (by have := FF.out; have := packs_len rs j; unfold maxLen; omega) (by have := FF.out; have := packs_len rs j; omega) (by exact hbb) ?_; intro v6 w6 hown hgrow hat)
        have hb6 : Below w2.heap.size w2 w6 := R5.out.b2.grown hgrow hbb (fun k hk => (R5.out.out.lt k hk).1)
        have R6 := hid (And.intro hown hb6)
        obtain ⟨A6, c6, rfl⟩ := own_slice hown
        clear hown hgrow hat hb6
        go_wp2_with fail
        have hj := FF.out.1
        go_roundg (gk - 1)
        case measure => omega
        case rel =>
          refine ⟨j + 1, by omega, by go_num, ?_⟩
          refine ⟨G2.out.et.below R6.out.2 G2.out.et.lt, B2.out.trans (R6.out.2.mono B2.out.size), R6.out.2, G2.out.x.below R6.out.2, G2.out.l.below R6.out.2, ?_⟩
          rw [FF.out.2.1]
          have := R6.out.1
          rw [← List.map_append] at this
          rw [List.length_append]
          exact this
      · have hjr : j = rs.length := by omega
        have hge : rs.length ≤ j := by omega
        have hn : decide ((j : Int) < (rs.length : Int)) = false := by simp; omega
        have hpk : packs (rs.take j) = bs.take n := by rw [hjr, List.take_length, ← SL.out.2.2.2.1]
        have hln : (bs.take n).length = n := by rw [List.length_take]; omega
        have ho := hR.out
        rw [hpk, hln] at ho
        obtain ⟨A7, c7, rfl⟩ := own_slice ho
        have R7 := hid (And.intro hR ho)
        have hn1 : ¬ (bs.length < n) := by omega
        have hn2 : decide ((bs.length : Int) < (n : Int)) = false := by simp; omega
        have hcn : ¬ (c < n) := by have := HC.out; omega
        have LN := hid hln
        clear hR ho hpk hln hjr hj
        go_wp2_with fail
        have hf1 := From.of_own R7.out.2
        have hf2 := (Byt.take (k := n) R7.out.1.x hnl).from_
        rw [LN.out] at hf2
        refine (bytes_same (bs := bs.take n) (by rw [LN.out]; exact hf1) (by rw [LN.out]; exact hf2)).mono ?_
        rintro e w8 ⟨rfl, rfl⟩
        clear hf1 hf2
        go_wp2_with fail
        have hnx := hid (next_any (.slice A bs.length c) bs n _ R7.out.1.x (by have := HL.out; omega))
        unfold NextRes at hnx
        cases hN : nextU bs n with
        | no q cc =>
          rw [hN] at hnx
          clear hN
          refine hnx.out.mono ?_
          rintro e w9 ⟨v, rfl, hv, h9⟩
          obtain ⟨tv, xv, hform⟩ := hv.form
          subst hform
          have hba := h9.trans (((Below.refl _ _).alloc (Nat.le_refl _) (.cells #[.int .i64 0, .slice none 0 0, .int .i64 0, .int .i64 0] 35)).mono h9.size)
          have R9 := hid (R7.out.1.step hba)
          clear h9 hba hv hnx
          have hpz : parseR 0 [] = (13, recZ) := rfl
          have HPZ := hid (fun W => gparse_any 0 0 0 (.slice none 0 0) [] W ⟨none, 0, rfl, Nat.le_refl _, fun h => absurd rfl h⟩)
          rw [hpz] at HPZ
          unfold ParseRes recZ RecS.val at HPZ
          rw [show codeV 13 = .iface 29 (.int .i64 13) from rfl] at HPZ
          dsimp only at HPZ
          clear hpz
          go_wp2_with fail
          refine (HPZ.out _).mono ?_
          rintro e w10 ⟨rfl, h10⟩
          have R10 := hid (R9.out.step h10)
          clear h10
          go_wp2_with fail
          refine (gfirst_any _ (by exact (R10.out.step ((Below.refl _ _).alloc (Nat.le_refl _) _)).et)).mono ?_
          rintro e w11 ⟨rfl, h11⟩
          have R11 := hid ((R10.out.step ((Below.refl _ _).alloc (Nat.le_refl _) _)).step h11)
          clear h11
          go_wp2_with fail
          go_ret
          exact ⟨rfl, R11.out.bel⟩
        | ok u =>
          have hpe := SL.out.2.2.2.2 u hN
          rw [hN] at hnx
          clear hN
          refine hnx.out.mono ?_
          rintro e w9 ⟨d, rfl, ho9, h9⟩
          obtain ⟨A9, c9, rfl⟩ := own_slice ho9
          have hba : Below w9.heap.size w9 (w9.alloc (.cells #[.int .i64 u.kind, .slice A9 u.data.length c9, .int .i64 u.at_, .int .i64 u.end_] 35)) := (Below.refl _ _).alloc (Nat.le_refl _) _
          have R9 := hid ((R7.out.1.step h9).step hba)
          have O9 := hid ((Byt.of_own ho9 rfl).below hba)
          clear h9 ho9 hnx hba
          obtain ⟨p, hp⟩ : ∃ p, p = parseR (u.kind : Int) u.data := ⟨_, rfl⟩
          have HPA := hid (fun W (hW : Byt W (.slice A9 u.data.length c9) u.data) => gparse_any u.kind u.at_ u.end_ _ u.data W hW)
          rw [← hp] at hpe HPA
          clear hp
          obtain ⟨pc, ⟨pk, ps, pn, pl, pcd⟩⟩ := p
          dsimp only at hpe
          have hcv : codeV pc = .iface 29 (.int .i64 pc) := by unfold codeV; rw [if_neg hpe]
          unfold ParseRes RecS.val at HPA
          dsimp only at HPA
          rw [hcv] at HPA
          clear hcv hpe
          go_wp2_with fail
          refine (HPA.out _ (by exact O9.out)).mono ?_
          rintro e w10 ⟨rfl, h10⟩
          have R10 := hid (R9.out.step h10)
          clear h10
          go_wp2_with fail
          refine (gfirst_any _ (by exact (R10.out.step ((Below.refl _ _).alloc (Nat.le_refl _) _)).et)).mono ?_
          rintro e w11 ⟨rfl, h11⟩
          have R11 := hid ((R10.out.step ((Below.refl _ _).alloc (Nat.le_refl _) _)).step h11)
          clear h11
          go_wp2_with fail
          go_ret
          exact ⟨rfl, R11.out.bel⟩
end Go.Proofs.YtabklmkdneoaaaaDoor
