/- Parts: XSKindsW. -/
import Derived.Test.YtkkgpdejmcpcpaaDoorM29
import Derived.Deep.RegionHeldLaw
/- SyntaxKinds: the walk. -/
namespace Go.Proofs.YtkkgpdejmcpcpaaDoor
open Go.RowKit

set_option maxRecDepth 100000 in
set_option maxHeartbeats 16000000 in
theorem skinds_walk (x y : Value) (bs : List UInt8) (l : List Bool) (w : World) (hx : Byt w x bs) (_ : bs.length ≤ maxLen) (hy : Els w 1 BoolR y l) (_ : l.length ≤ maxLen) (hsz : bs.length ≤ 140737488351232) (hg : ErrT w) :
    Calls Tryd.prog 4 #[x, y] w fun e w' => e = .returned (.bool true) ∧ Below w.heap.size w w' := by
  obtain ⟨A, c, rfl, hc⟩ := hx.form
  obtain ⟨B, d, rfl, hd⟩ := Els.form hy
  have HG := hid (And.intro hg hg.lt)
  have X := hid hx
  have Y := hid hy
  clear hg hx hc hy hd
  have hbig : (decide ((20000 : Int) < (bs.length : Int)) = true ∧ decide (20000 < bs.length) = true) ∨ (decide ((20000 : Int) < (bs.length : Int)) = false ∧ decide (20000 < bs.length) = false ∧ bs.length ≤ 20000) := by
    by_cases h : 20000 < bs.length
    · exact .inl ⟨by simp; omega, by simp; omega⟩
    · exact .inr ⟨by simp; omega, by simp; omega, by omega⟩
  rcases hbig with ⟨hbig, hbig2⟩ | ⟨hbig, hbig2, hl⟩
  · go_enter Tryd.func4, Tryd.ntmps4
    go_wp2_with fail
    refine (first20 _ HG.out.1).mono ?_
    rintro e w1 ⟨rfl, h1⟩
    have B1 := hid h1
    clear h1
    go_wp2_with fail
    refine (new_rd _ bs _ (X.out.below B1.out).from_ (by omega)).mono ?_
    rintro e w2 ⟨b1, F1, rfl, _, _, hb1⟩
    have B2 := hid (B1.out.trans (hb1.mono B1.out.size))
    clear hb1
    go_wp2_with fail
    refine (new_wr _).mono ?_
    rintro e w3 ⟨b2, G1, rfl, _, _, hb2⟩
    have B3 := hid (B2.out.trans (hb2.mono B2.out.size))
    clear hb2
    go_wp2_with fail
    refine (first20 _ (by exact HG.out.1.below B3.out HG.out.2)).mono ?_
    rintro e w4 ⟨rfl, hb4⟩
    have B4 := hid (B3.out.trans (hb4.mono B3.out.size))
    clear hb4
    go_wp2_with fail
    go_ret
    exact ⟨rfl, B4.out⟩
  · go_enter Tryd.func4, Tryd.ntmps4
    go_wp2_with fail
    refine (first20 _ HG.out.1).mono ?_
    rintro e w1 ⟨rfl, h1⟩
    have B1 := hid h1
    clear h1
    go_wp2_with fail
    refine (new_rd _ bs _ (X.out.below B1.out).from_ (by omega)).mono ?_
    rintro e w2 ⟨b1, F1, rfl, ha1, hf1, hb1⟩
    have O2 := hid (show OwnC (AtRd b1) w (Rd.new bs) w2 F1 from ⟨ha1, fun k hk => Nat.le_trans B1.out.size (hf1 k hk), B1.out.trans (hb1.mono B1.out.size)⟩)
    clear ha1 hf1 hb1
    go_wp2_with fail
    refine (new_wr _).mono ?_
    rintro e w3 ⟨b2, G1, rfl, ha2, hf2, hb2⟩
    have T2 := hid (show TwoAt w.heap.size w (AtRd b1) (AtWr b2) F1 G1 (Rd.new bs) Wr.new w3 from ⟨(rd_coder b1).keep _ _ F1 (fun _ => False) _ O2.out.a (Only.of_below hb2) (fun _ _ h => h), ha2, fun k h1 h2 => by have := (rd_coder b1).there _ _ _ _ O2.out.a h1; have := hf2 k h2; omega, O2.out.lo, fun k hk => Nat.le_trans O2.out.bel.size (hf2 k hk), O2.out.bel.trans (hb2.mono O2.out.bel.size), Nat.le_trans O2.out.bel.size hb2.size⟩)
    clear ha2 hf2 hb2 hbig hbig2
    go_wp2_with fail
    go_loopg [7] l.length (fun k iv wr => ∃ (i : Nat) (s : Rd) (t : Wr) (F G : Nat → Prop) (m m2 : Nat), i + k = l.length ∧ iv = .int .i64 i ∧ i ≤ 100 ∧ TwoAt w.heap.size w (AtRd b1) (AtWr b2) F G s t wr ∧ (m ≤ 4 + 9000 * i ∧ m2 ≤ 9000 * i) ∧ s.Ok m ∧ t.Ok m2)
    case atStart => exact ⟨0, Rd.new bs, Wr.new, F1, G1, 4, 0, by omega, rfl, by omega, T2.out, by omega, ok_rd_new bs, ok_wr_new⟩
    case round =>
      obtain ⟨i, s, t, F, G, m, m2, hik, rfl, hi100, hown, ⟨hm, hm2⟩, hok, hok2⟩ := hrel
      have O := hid (And.intro hown (And.intro hok hok2))
      have hcase : (decide ((i : Int) < (l.length : Int)) = false ∧ ¬ i < l.length) ∨ (i < l.length ∧ decide ((i : Int) < (l.length : Int)) = true ∧ decide ((i : Int) < 100) = false) ∨ (i < l.length ∧ decide ((i : Int) < (l.length : Int)) = true ∧ decide ((i : Int) < 100) = true) := by
        by_cases h1 : i < l.length
        · have e1 : decide ((i : Int) < (l.length : Int)) = true := by simp; omega
          by_cases h2 : i < 100
          · exact .inr (.inr ⟨h1, e1, by simp; omega⟩)
          · exact .inr (.inl ⟨h1, e1, by simp; omega⟩)
        · exact .inl ⟨by simp; omega, h1⟩
      rcases hcase with ⟨h1, h2⟩ | ⟨h1, h2, h3⟩ | ⟨h1, h2, h3⟩
      · have h9 : decide (i < l.length) = false := decide_eq_false h2
        clear hown hok hok2
        go_wp2_with fail
        refine (first20 _ (by exact HG.out.1.below O.out.1.bel HG.out.2)).mono ?_
        rintro e w4 ⟨rfl, hb4⟩
        have B4 := hid (O.out.1.bel.trans (hb4.mono O.out.1.bel.size))
        clear hb4
        go_wp2_with fail
        go_ret
        exact ⟨rfl, B4.out⟩
      · have h9 : decide (i < l.length) = true := decide_eq_true h1
        clear hown hok hok2
        go_wp2_with fail
        refine (first20 _ (by exact HG.out.1.below O.out.1.bel HG.out.2)).mono ?_
        rintro e w4 ⟨rfl, hb4⟩
        have B4 := hid (O.out.1.bel.trans (hb4.mono O.out.1.bel.size))
        clear hb4
        go_wp2_with fail
        go_ret
        exact ⟨rfl, B4.out⟩
      · have h9 : decide (i < l.length) = true := decide_eq_true h1
        have hi3 : i < 100 := by simp only [decide_eq_true_eq] at h3; omega
        obtain ⟨u, hu⟩ : ∃ u, l[i]? = some u := ⟨l[i], List.getElem?_eq_getElem h1⟩
        obtain ⟨b4, o4, cs0, rfl, hb4, _, rfl, hcell⟩ := Els.at_ Y.out hu
        have hc0 : w.cell? ⟨b4, o4 + i, none⟩ = some (.bool u) := by simpa using hcell 0 _ rfl
        have f0 := (hown.bel.cell (p := ⟨b4, o4 + i, none⟩) hb4).trans hc0
        have FK := hid (fun W (hb : Below w.heap.size w W) => (hb.cell (p := ⟨b4, o4 + i, none⟩) hb4).trans hc0)
        have k0 : (0 : Int) ≤ (i : Int) := by omega
        have k1 : (i : Int) < (l.length : Int) := by omega
        have HI := hid (And.intro hik (And.intro h1 hi3))
        have HGW : Hid (∀ k, G k → k < wr.heap.size) := fun k hk => (wr_coder b2).there _ _ _ _ hown.r hk
        clear hown hok hok2 hu hcell hb4 hc0
        go_wp2_with fail
        refine (rcode20 b1 u _ ⟨9, 0, [0, 0, 0, 0], 0, 0, [], [[], [], [], []]⟩ 0 0 0 0 nilS nilS nilS nilS nilS [] [] [] [] s _ F m (sq_zero _ 9 0) O.out.1.l O.out.2.1 (by omega)).mono ?_
        rintro e w6 ⟨F6, hcw, hans⟩
        have hgood := All.run rdM (all_code u) s
        obtain ⟨m6, hm6, hok6⟩ := ok_code20 (rd_coder b1) u zeroS (by decide) s m O.out.2.1
        obtain ⟨⟨⟨ro, q⟩, s6⟩, hrun⟩ : ∃ z, rdM.run (codeA u zeroS) s = z := ⟨_, rfl⟩
        rw [hrun] at hcw hans hgood hok6
        have hT6 := O.out.1.leftC (wr_coder b2) hcw
        clear hrun
        rcases hgood with ⟨g1, hright, hparts, hfour⟩ | ⟨j, g1, hkind⟩
        · dsimp only at g1 hright hparts hfour
          subst g1
          obtain ⟨v6, rfl, hv6⟩ := hans
          obtain ⟨m0, m1, m2', m3, lv, v0, v1, v2, v3, l0, l1, l2, l3, rfl, hqm, hqs, y0, y1, y2, y3, y4⟩ := hv6
          have hNum : ∀ p ∈ [(lv, q.large), (v0, l0), (v1, l1), (v2, l2), (v3, l3)], NOff p.1 p.2 w6 G := by
            intro p hp
            simp only [List.mem_cons, List.not_mem_nil, or_false] at hp
            rcases hp with rfl | rfl | rfl | rfl | rfl
            · exact y0.noff HGW.out
            · exact y1.noff HGW.out
            · exact y2.noff HGW.out
            · exact y3.noff HGW.out
            · exact y4.noff HGW.out
          obtain ⟨A0, n0, rfl⟩ := lst_form y0
          obtain ⟨A1, n1, rfl⟩ := lst_form y1
          obtain ⟨A2, n2, rfl⟩ := lst_form y2
          obtain ⟨A3, n3, rfl⟩ := lst_form y3
          obtain ⟨A4, n4, rfl⟩ := lst_form y4
          have hal : Below w6.heap.size w6 (w6.alloc (.cells #[.int .i64 q.kind, .int .i64 q.mode, .int .i64 m0, .int .i64 m1, .int .i64 m2', .int .i64 m3, .int .i64 q.x, .int .i64 q.y, .slice A0 n0 n0, .slice A1 n1 n1, .slice A2 n2 n2, .slice A3 n3 n3, .slice A4 n4 n4] 60)) := (Below.refl _ _).alloc (Nat.le_refl _) _
          have Q7 := hid (show KQ w (AtRd b1) (AtWr b2) F6 G s6 t w6.heap.size q m0 m1 m2' m3 (.slice A0 n0 n0) (.slice A1 n1 n1) (.slice A2 n2 n2) (.slice A3 n3 n3) (.slice A4 n4 n4) l0 l1 l2 l3 (w6.alloc (.cells #[.int .i64 q.kind, .int .i64 q.mode, .int .i64 m0, .int .i64 m1, .int .i64 m2', .int .i64 m3, .int .i64 q.x, .int .i64 q.y, .slice A0 n0 n0, .slice A1 n1 n1, .slice A2 n2 n2, .slice A3 n3 n3, .slice A4 n4 n4] 60)) from
            ⟨hT6.below (rd_coder b1) (wr_coder b2) hal, SqBlk.of (Blk.new _ _ _) rfl, fun e => by have := (rd_coder b1).there _ _ _ _ hT6.l e; omega, fun e => by have := (wr_coder b2).there _ _ _ _ hT6.r e; omega, fun p hp => (hNum p hp).below hal⟩)
          have R7 := hid (And.intro hright (And.intro hparts (And.intro hfour (And.intro hqm (And.intro hqs (And.intro hok6 hm6))))))
          clear hright hparts hfour hqm hqs hok6 hm6 hcw hT6 hNum hal y0 y1 y2 y3 y4 f0
          have d0 : decide (q.kind < 0) = false := by have := R7.out.1.k0; simp; omega
          have d3 : decide (3 < q.kind) = false := by have := R7.out.1.k3; simp; omega
          have hkk : q.kind = 0 ∨ q.kind = 1 ∨ q.kind = 2 ∨ q.kind = 3 := by have := R7.out.1.k0; have := R7.out.1.k3; omega
          have d2 : u = true → decide (q.kind < 2) = false := fun e => by have := R7.out.1.key e; simp; omega
          have D2 := hid d2
          have hcl := canon_len R7.out.1 R7.out.2.1
          have hlen : ∀ l ∈ [q.large, l0, l1, l2, l3], l.length ≤ 1000000 := by
            intro l hl
            rcases List.mem_cons.1 hl with rfl | hl
            · omega
            · have := hcl.2 l (by rw [R7.out.2.2.2.2.1]; exact hl)
              omega
          unfold sqV
          go_upto_region 12 with fail
          generalize w6.alloc (.cells #[.int .i64 q.kind, .int .i64 q.mode, .int .i64 m0, .int .i64 m1, .int .i64 m2', .int .i64 m3, .int .i64 q.x, .int .i64 q.y, .slice A0 n0 n0, .slice A1 n1 n1, .slice A2 n2 n2, .slice A3 n3 n3, .slice A4 n4 n4] 60) = w7 at *
          obtain ⟨p0, p1, p2, p3, lu, u0, u1, u2, u3, q0, q1, q2, q3, hpv, hpm, hps, hpn⟩ := parts_num w7 q m0 m1 m2' m3 (.slice A0 n0 n0) (.slice A1 n1 n1) (.slice A2 n2 n2) (.slice A3 n3 n3) (.slice A4 n4 n4) l0 l1 l2 l3 R7.out.2.2.2.1 R7.out.2.2.2.2.1 (fun p hp => (Q7.out.n p hp).n) hkk
          rw [R7.out.2.1] at hpv hpm hps hpn
          obtain ⟨rfl, rfl, rfl, rfl⟩ : m0 = p0 ∧ m1 = p1 ∧ m2' = p2 ∧ m3 = p3 := by simpa using R7.out.2.2.2.1.symm.trans hpm
          obtain ⟨rfl, rfl, rfl, rfl⟩ : l0 = q0 ∧ l1 = q1 ∧ l2 = q2 ∧ l3 = q3 := by simpa using R7.out.2.2.2.2.1.symm.trans hps
          have HPT := hid (fun W => parts20 q.kind q.mode m0 m1 m2' m3 q.x q.y A0 A1 A2 A3 A4 n0 n1 n2 n3 n4 n0 n1 n2 n3 n4 W hkk)
          rw [hpv] at HPT
          have HSM := hid (fun W (hb : Below w7.heap.size w7 W) => same_any q.kind q.mode m0 m1 m2' m3 q.x q.y (.slice A0 n0 n0) (.slice A1 n1 n1) (.slice A2 n2 n2) (.slice A3 n3 n3) (.slice A4 n4 n4) lu u0 u1 u2 u3 q.large l0 l1 l2 l3 W (by
            intro p hp
            simp only [List.mem_cons, List.not_mem_nil, or_false] at hp
            rcases hp with rfl | rfl | rfl | rfl | rfl | rfl | rfl | rfl | rfl | rfl
            · exact ((Q7.out.n _ (by simp)).n).below hb
            · exact ((Q7.out.n (.slice A1 n1 n1, l0) (by simp)).n).below hb
            · exact ((Q7.out.n (.slice A2 n2 n2, l1) (by simp)).n).below hb
            · exact ((Q7.out.n (.slice A3 n3 n3, l2) (by simp)).n).below hb
            · exact ((Q7.out.n (.slice A4 n4 n4, l3) (by simp)).n).below hb
            · exact (hpn (lu, q.large) (by simp)).below hb
            · exact (hpn (u0, l0) (by simp)).below hb
            · exact (hpn (u1, l1) (by simp)).below hb
            · exact (hpn (u2, l2) (by simp)).below hb
            · exact (hpn (u3, l3) (by simp)).below hb) hlen)
          unfold sqV at HPT HSM
          have hcells : ∀ W, SqBlk W w6.heap.size 60 q.kind q.mode [m0, m1, m2', m3] q.x q.y (.slice A0 n0 n0) [.slice A1 n1 n1, .slice A2 n2 n2, .slice A3 n3 n3, .slice A4 n4 n4] → Below w.heap.size w W → W.cell? ⟨w6.heap.size, 0, none⟩ = some (.int .i64 q.kind) ∧ W.cell? ⟨w6.heap.size, 1, none⟩ = some (.int .i64 q.mode) ∧ W.cell? ⟨w6.heap.size, 2, none⟩ = some (.int .i64 m0) ∧ W.cell? ⟨w6.heap.size, 3, none⟩ = some (.int .i64 m1) ∧ W.cell? ⟨w6.heap.size, 4, none⟩ = some (.int .i64 m2') ∧ W.cell? ⟨w6.heap.size, 5, none⟩ = some (.int .i64 m3) ∧ W.cell? ⟨w6.heap.size, 6, none⟩ = some (.int .i64 q.x) ∧ W.cell? ⟨w6.heap.size, 7, none⟩ = some (.int .i64 q.y) ∧ W.cell? ⟨w6.heap.size, 8, none⟩ = some (.slice A0 n0 n0) ∧ W.cell? ⟨w6.heap.size, 9, none⟩ = some (.slice A1 n1 n1) ∧ W.cell? ⟨w6.heap.size, 10, none⟩ = some (.slice A2 n2 n2) ∧ W.cell? ⟨w6.heap.size, 11, none⟩ = some (.slice A3 n3 n3) ∧ W.cell? ⟨w6.heap.size, 12, none⟩ = some (.slice A4 n4 n4) ∧ W.cell? ⟨b4, o4 + i, none⟩ = some (.bool u) := by
            intro W h hb
            obtain ⟨⟨c0, c1⟩, ⟨c2, c3, c4, c5⟩, ⟨c6, c7, c8⟩, c9, c10, c11, c12⟩ := h.all4
            exact ⟨c0, c1, c2, c3, c4, c5, c6, c7, c8, c9, c10, c11, c12, FK.out W hb⟩
          have HCL := hid hcells
          have K7 := hid (hcells _ Q7.out.b Q7.out.T.bel)
          have Q7d := hid (Q7.out.below (rd_coder b1) (wr_coder b2) (Below.refl w7.heap.size w7).drew)
          have K7d := hid (hcells _ Q7d.out.b Q7d.out.T.bel)
          have HL := hid hlen
          clear hcells hlen hcl hpv hpm hps hpn hkk d2
          cases u with
          | true =>
            have d2 := D2.out rfl
            go_wp2_with fail
            go_region_held_law (fun W => W.cell? ⟨w6.heap.size, 0, none⟩ = some (.int .i64 q.kind) ∧ W.cell? ⟨w6.heap.size, 1, none⟩ = some (.int .i64 q.mode) ∧ W.cell? ⟨w6.heap.size, 2, none⟩ = some (.int .i64 m0) ∧ W.cell? ⟨w6.heap.size, 3, none⟩ = some (.int .i64 m1) ∧ W.cell? ⟨w6.heap.size, 4, none⟩ = some (.int .i64 m2') ∧ W.cell? ⟨w6.heap.size, 5, none⟩ = some (.int .i64 m3) ∧ W.cell? ⟨w6.heap.size, 6, none⟩ = some (.int .i64 q.x) ∧ W.cell? ⟨w6.heap.size, 7, none⟩ = some (.int .i64 q.y) ∧ W.cell? ⟨w6.heap.size, 8, none⟩ = some (.slice A0 n0 n0) ∧ W.cell? ⟨w6.heap.size, 9, none⟩ = some (.slice A1 n1 n1) ∧ W.cell? ⟨w6.heap.size, 10, none⟩ = some (.slice A2 n2 n2) ∧ W.cell? ⟨w6.heap.size, 11, none⟩ = some (.slice A3 n3 n3) ∧ W.cell? ⟨w6.heap.size, 12, none⟩ = some (.slice A4 n4 n4) ∧ W.cell? ⟨b4, o4 + i, none⟩ = some (.bool true))
              (with_reducible first | exact K9.out | exact K8.out | exact K7d.out | exact K7.out)
              (first
                | (go_at_call 20
                   have hN := Q8.out
                   refine (HSM.out _ (by exact hN.2)).mono ?_
                   rintro e w9 ⟨rfl, hb⟩
                   have Q9 := hid (hN.1.below (rd_coder b1) (wr_coder b2) hb)
                   have K9 := hid (HCL.out _ Q9.out.b Q9.out.T.bel)
                   clear hN hb)
                | (go_at_call 21
                   have hN := Q7d.out
                   refine (HPT.out _).mono ?_
                   rintro e w8 ⟨rfl, hb⟩
                   have Q8 := hid (And.intro (hN.below (rd_coder b1) (wr_coder b2) hb) (show Below w7.heap.size w7 w8 from ((Below.refl w7.heap.size w7).drew).trans hb))
                   have K8 := hid (HCL.out _ Q8.out.1.b Q8.out.1.T.bel)
                   clear hN hb)
                | fail)
            go_upto_region 14 with fail
            have Q9d := hid (Q9.out.below (rd_coder b1) (wr_coder b2) (Below.refl w9.heap.size w9).drew)
            have K9d := hid (HCL.out _ Q9d.out.b Q9d.out.T.bel)
            have hal9 : Below w9.heap.size w9 (w9.alloc (.cells #[.int .i64 0, .int .i64 0, .int .i64 0, .int .i64 0, .int .i64 0, .int .i64 0, .int .i64 0, .int .i64 0, nilS, nilS, nilS, nilS, nilS] 60)).drew := ((Below.refl w9.heap.size w9).alloc (Nat.le_refl _) _).drew
            have QB := hid (And.intro (Q9.out.below (rd_coder b1) (wr_coder b2) hal9) (And.intro (show SqBlk (w9.alloc (.cells #[.int .i64 0, .int .i64 0, .int .i64 0, .int .i64 0, .int .i64 0, .int .i64 0, .int .i64 0, .int .i64 0, nilS, nilS, nilS, nilS, nilS] 60)).drew w9.heap.size 60 0 0 [] 0 0 nilS [] from SqBlk.drew (SqBlk.new (Blk.new _ _ _) rfl)) (And.intro (show ¬ G w9.heap.size from fun e => by have := (wr_coder b2).there _ _ _ _ Q9.out.T.r e; omega) (show w.heap.size ≤ w9.heap.size ∧ w6.heap.size < w9.heap.size ∧ ¬ F6 w9.heap.size from ⟨Q9.out.T.size, Q9.out.b.lt, fun e => by have := (rd_coder b1).there _ _ _ _ Q9.out.T.l e; omega⟩))))
            have KB := hid (HCL.out _ QB.out.1.b QB.out.1.T.bel)
            have hask := R7.out.1.ask
            have hT := echo_told echo_wr R7.out.1 R7.out.2.2.1 t
            rw [R7.out.2.1] at hT
            have HT := hid (And.intro hask hT)
            obtain ⟨m9, hm9, hok9⟩ := ok_code20 (wr_coder b2) true q (by rw [R7.out.2.2.1.1]; omega) t m2 O.out.2.2
            have OK9 := hid (And.intro hok9 hm9)
            clear hask hT HPT HSM K7 K7d hm9 hok9 hal9
            go_cut [10, 11] from 98 to 109 (fun a b W => ∃ (g : Nat) (B0 B1 B2 B3 B4 : Option Addr) (k0' k1' k2' k3' k4' : Nat) (G11 : Nat → Prop), a = .pointer (some ⟨g, 0, none⟩) ∧ b = .nilIface ∧ KQ w (AtRd b1) (AtWr b2) F6 G11 s6 (wrM.run (codeA true q) t).2 w6.heap.size q m0 m1 m2' m3 (.slice A0 n0 n0) (.slice A1 n1 n1) (.slice A2 n2 n2) (.slice A3 n3 n3) (.slice A4 n4 n4) l0 l1 l2 l3 W ∧ SqBlk W g 60 q.kind q.mode [m0, m1, m2', m3] q.x q.y (.slice B0 k0' k0') [.slice B1 k1' k1', .slice B2 k2' k2', .slice B3 k3' k3', .slice B4 k4' k4'] ∧ (Nums W (.slice B0 k0' k0') q.large ∧ Nums W (.slice B1 k1' k1') l0 ∧ Nums W (.slice B2 k2' k2') l1 ∧ Nums W (.slice B3 k3' k3') l2 ∧ Nums W (.slice B4 k4' k4') l3))
            case first =>
              go_region_held_law (fun W => W.cell? ⟨w6.heap.size, 0, none⟩ = some (.int .i64 q.kind) ∧ W.cell? ⟨w6.heap.size, 1, none⟩ = some (.int .i64 q.mode) ∧ W.cell? ⟨w6.heap.size, 2, none⟩ = some (.int .i64 m0) ∧ W.cell? ⟨w6.heap.size, 3, none⟩ = some (.int .i64 m1) ∧ W.cell? ⟨w6.heap.size, 4, none⟩ = some (.int .i64 m2') ∧ W.cell? ⟨w6.heap.size, 5, none⟩ = some (.int .i64 m3) ∧ W.cell? ⟨w6.heap.size, 6, none⟩ = some (.int .i64 q.x) ∧ W.cell? ⟨w6.heap.size, 7, none⟩ = some (.int .i64 q.y) ∧ W.cell? ⟨w6.heap.size, 8, none⟩ = some (.slice A0 n0 n0) ∧ W.cell? ⟨w6.heap.size, 9, none⟩ = some (.slice A1 n1 n1) ∧ W.cell? ⟨w6.heap.size, 10, none⟩ = some (.slice A2 n2 n2) ∧ W.cell? ⟨w6.heap.size, 11, none⟩ = some (.slice A3 n3 n3) ∧ W.cell? ⟨w6.heap.size, 12, none⟩ = some (.slice A4 n4 n4) ∧ W.cell? ⟨b4, o4 + i, none⟩ = some (.bool true))
                (with_reducible first | exact K13.out | exact K12.out | exact K11.out | exact KB3.out | exact KB2.out | exact KB.out | exact K9d.out | exact K9.out)
                (first
                  | (go_at_call 19
                     have hN := QB.out.1
                     refine (wcode20 b2 true _ q m0 m1 m2' m3 (.slice A0 n0 n0) (.slice A1 n1 n1) (.slice A2 n2 n2) (.slice A3 n3 n3) (.slice A4 n4 n4) l0 l1 l2 l3 t (w9.alloc (.cells #[.int .i64 0, .int .i64 0, .int .i64 0, .int .i64 0, .int .i64 0, .int .i64 0, .int .i64 0, .int .i64 0, nilS, nilS, nilS, nilS, nilS] 60)).drew G m2 ⟨⟨rfl, R7.out.2.2.2.1⟩, R7.out.2.2.2.2.1, (hN.n (.slice A0 n0 n0, q.large) (by simp)).n, (hN.n (.slice A1 n1 n1, l0) (by simp)).n, (hN.n (.slice A2 n2 n2, l1) (by simp)).n, (hN.n (.slice A3 n3 n3, l2) (by simp)).n, (hN.n (.slice A4 n4 n4, l3) (by simp)).n⟩ (by exact hN.T.r) O.out.2.2 (by omega) HT.out.1 (fun _ p hp => hN.n p (List.mem_cons_of_mem _ hp)) (fun _ => hN.n (.slice A0 n0 n0, q.large) (by simp))).mono ?_
                     rintro e w11 ⟨G11, hcw, hans⟩
                     rw [HT.out.2] at hans
                     obtain ⟨v11, rfl, hv11⟩ := hans
                     obtain ⟨p0, p1, p2, p3, lv', v0', v1', v2', v3', j0, j1, j2, j3, rfl, hqm', hqs', z0, z1, z2, z3, z4⟩ := hv11
                     obtain ⟨rfl, rfl, rfl, rfl⟩ : m0 = p0 ∧ m1 = p1 ∧ m2' = p2 ∧ m3 = p3 := by simpa using R7.out.2.2.2.1.symm.trans hqm'
                     obtain ⟨rfl, rfl, rfl, rfl⟩ : l0 = j0 ∧ l1 = j1 ∧ l2 = j2 ∧ l3 = j3 := by simpa using R7.out.2.2.2.2.1.symm.trans hqs'
                     obtain ⟨B0, k0', rfl⟩ := lst_form z0
                     obtain ⟨B1, k1', rfl⟩ := lst_form z1
                     obtain ⟨B2, k2', rfl⟩ := lst_form z2
                     obtain ⟨B3, k3', rfl⟩ := lst_form z3
                     obtain ⟨B4, k4', rfl⟩ := lst_form z4
                     have hq11 := hN.right (rd_coder b1) hcw
                     have hb11 := QB.out.2.1.keep hcw.o QB.out.2.2.1
                     have hG11 : ¬ G11 w9.heap.size := fun e => by
                       rcases hcw.f _ e with e | e
                       · exact QB.out.2.2.1 e
                       · have := QB.out.2.1.lt; omega
                     have KB2 := hid (HCL.out _ hq11.b hq11.T.bel)
                     have ho := only13 w11 w9.heap.size q.kind q.mode m0 m1 m2' m3 q.x q.y (.slice B0 k0' k0') (.slice B1 k1' k1') (.slice B2 k2' k2') (.slice B3 k3' k3') (.slice B4 k4' k4')
                     have hne := QB.out.2.2.2
                     have hB9 : ∀ k, k = w9.heap.size → ¬ k = w6.heap.size := fun k e => by omega
                     have hT13 := hq11.T.keep (rd_coder b1) (wr_coder b2) ho (fun k hk e => hne.2.2 (by rw [← e]; exact hk)) (fun k hk e => hG11 (by rw [← e]; exact hk)) (fun k hk e => by omega)
                     have hb13 := hq11.b.keep ho (by omega)
                     have KB3 := hid (HCL.out _ hb13 hT13.bel)
                     have hlt11 := hb11.lt
                     have hgz : ∀ (v : Value) (l : List Int), Lst (w9.alloc (.cells #[.int .i64 0, .int .i64 0, .int .i64 0, .int .i64 0, .int .i64 0, .int .i64 0, .int .i64 0, .int .i64 0, nilS, nilS, nilS, nilS, nilS] 60)).drew v l w11 G11 → Nums (((((((((((((w11.setCell ⟨w9.heap.size, 0, none⟩ (.int .i64 q.kind)).setCell ⟨w9.heap.size, 1, none⟩ (.int .i64 q.mode)).setCell ⟨w9.heap.size, 2, none⟩ (.int .i64 m0)).setCell ⟨w9.heap.size, 3, none⟩ (.int .i64 m1)).setCell ⟨w9.heap.size, 4, none⟩ (.int .i64 m2')).setCell ⟨w9.heap.size, 5, none⟩ (.int .i64 m3)).setCell ⟨w9.heap.size, 6, none⟩ (.int .i64 q.x)).setCell ⟨w9.heap.size, 7, none⟩ (.int .i64 q.y)).setCell ⟨w9.heap.size, 8, none⟩ (.slice B0 k0' k0')).setCell ⟨w9.heap.size, 9, none⟩ (.slice B1 k1' k1')).setCell ⟨w9.heap.size, 10, none⟩ (.slice B2 k2' k2')).setCell ⟨w9.heap.size, 11, none⟩ (.slice B3 k3' k3')).setCell ⟨w9.heap.size, 12, none⟩ (.slice B4 k4' k4')) v l := fun v l h => h.nums.keepO ho (fun k hk e => by
                       rcases h with ⟨rfl, _⟩ | ⟨g, rfl, h2⟩
                       · simp [Value.ownBlock] at hk
                       · have e2 : g = k := by simpa [Value.ownBlock] using hk
                         have := h2.lo
                         have : (w9.alloc (.cells #[.int .i64 0, .int .i64 0, .int .i64 0, .int .i64 0, .int .i64 0, .int .i64 0, .int .i64 0, .int .i64 0, nilS, nilS, nilS, nilS, nilS] 60)).drew.heap.size = w9.heap.size + 1 := by show (w9.alloc _).heap.size = _; simp
                         omega)
                     have SB := hid (And.intro (show KQ w (AtRd b1) (AtWr b2) F6 G11 s6 (wrM.run (codeA true q) t).2 w6.heap.size q m0 m1 m2' m3 (.slice A0 n0 n0) (.slice A1 n1 n1) (.slice A2 n2 n2) (.slice A3 n3 n3) (.slice A4 n4 n4) l0 l1 l2 l3 (((((((((((((w11.setCell ⟨w9.heap.size, 0, none⟩ (.int .i64 q.kind)).setCell ⟨w9.heap.size, 1, none⟩ (.int .i64 q.mode)).setCell ⟨w9.heap.size, 2, none⟩ (.int .i64 m0)).setCell ⟨w9.heap.size, 3, none⟩ (.int .i64 m1)).setCell ⟨w9.heap.size, 4, none⟩ (.int .i64 m2')).setCell ⟨w9.heap.size, 5, none⟩ (.int .i64 m3)).setCell ⟨w9.heap.size, 6, none⟩ (.int .i64 q.x)).setCell ⟨w9.heap.size, 7, none⟩ (.int .i64 q.y)).setCell ⟨w9.heap.size, 8, none⟩ (.slice B0 k0' k0')).setCell ⟨w9.heap.size, 9, none⟩ (.slice B1 k1' k1')).setCell ⟨w9.heap.size, 10, none⟩ (.slice B2 k2' k2')).setCell ⟨w9.heap.size, 11, none⟩ (.slice B3 k3' k3')).setCell ⟨w9.heap.size, 12, none⟩ (.slice B4 k4' k4')) from ⟨hT13, hb13, hq11.oF, hq11.oG, fun p hp => ⟨(hq11.n p hp).n.keepO ho (fun k hk e => by have := (Q9.out.n p hp).b k hk; omega), (hq11.n p hp).f, fun k hk => Nat.lt_of_lt_of_le ((hq11.n p hp).b k hk) ho.size⟩⟩) (And.intro (hb11.set13 q.kind q.mode m0 m1 m2' m3 q.x q.y (.slice B0 k0' k0') (.slice B1 k1' k1') (.slice B2 k2' k2') (.slice B3 k3' k3') (.slice B4 k4' k4')) (And.intro (hgz _ _ z0) (And.intro (hgz _ _ z1) (And.intro (hgz _ _ z2) (And.intro (hgz _ _ z3) (hgz _ _ z4)))))))
                     obtain ⟨⟨r0, r1⟩, ⟨r2, r3, r4, r5⟩, ⟨r6, r7, r8⟩, r9, r10, r11, r12⟩ := hb11.all4'
                     have fz0 := hb11.frozen 0
                     have fz1 := hb11.frozen 1
                     have fz2 := hb11.frozen 2
                     have fz3 := hb11.frozen 3
                     have fz4 := hb11.frozen 4
                     have fz5 := hb11.frozen 5
                     have fz6 := hb11.frozen 6
                     have fz7 := hb11.frozen 7
                     have fz8 := hb11.frozen 8
                     have fz9 := hb11.frozen 9
                     have fz10 := hb11.frozen 10
                     have fz11 := hb11.frozen 11
                     have fz12 := hb11.frozen 12
                     unfold sqV
                     clear hN hcw hqm' hqs' z0 z1 z2 z3 z4 hq11 hb11 ho hne hB9 hT13 hb13 hgz hlt11 hG11)
                  | (go_at_call 19
                     have hN := Q9d.out
                     refine (wcode20 b2 true _ q m0 m1 m2' m3 (.slice A0 n0 n0) (.slice A1 n1 n1) (.slice A2 n2 n2) (.slice A3 n3 n3) (.slice A4 n4 n4) l0 l1 l2 l3 t w9.drew G m2 ⟨⟨rfl, R7.out.2.2.2.1⟩, R7.out.2.2.2.2.1, (hN.n (.slice A0 n0 n0, q.large) (by simp)).n, (hN.n (.slice A1 n1 n1, l0) (by simp)).n, (hN.n (.slice A2 n2 n2, l1) (by simp)).n, (hN.n (.slice A3 n3 n3, l2) (by simp)).n, (hN.n (.slice A4 n4 n4, l3) (by simp)).n⟩ (by exact hN.T.r) O.out.2.2 (by omega) HT.out.1 (fun _ p hp => hN.n p (List.mem_cons_of_mem _ hp)) (fun _ => hN.n (.slice A0 n0 n0, q.large) (by simp))).mono ?_
                     rintro e w11 ⟨G11, hcw, hans⟩
                     rw [HT.out.2] at hans
                     obtain ⟨v11, rfl, hv11⟩ := hans
                     obtain ⟨p0, p1, p2, p3, lv', v0', v1', v2', v3', j0, j1, j2, j3, rfl, hqm', hqs', z0, z1, z2, z3, z4⟩ := hv11
                     obtain ⟨rfl, rfl, rfl, rfl⟩ : m0 = p0 ∧ m1 = p1 ∧ m2' = p2 ∧ m3 = p3 := by simpa using R7.out.2.2.2.1.symm.trans hqm'
                     obtain ⟨rfl, rfl, rfl, rfl⟩ : l0 = j0 ∧ l1 = j1 ∧ l2 = j2 ∧ l3 = j3 := by simpa using R7.out.2.2.2.2.1.symm.trans hqs'
                     obtain ⟨B0, k0', rfl⟩ := lst_form z0
                     obtain ⟨B1, k1', rfl⟩ := lst_form z1
                     obtain ⟨B2, k2', rfl⟩ := lst_form z2
                     obtain ⟨B3, k3', rfl⟩ := lst_form z3
                     obtain ⟨B4, k4', rfl⟩ := lst_form z4
                     have hq11 := hN.right (rd_coder b1) hcw
                     have K11 := hid (HCL.out _ hq11.b hq11.T.bel)
                     have hal : Below w11.heap.size w11 (w11.alloc (.cells #[.int .i64 0, .int .i64 0, .int .i64 0, .int .i64 0, .int .i64 0, .int .i64 0, .int .i64 0, .int .i64 0, nilS, nilS, nilS, nilS, nilS] 60)) := (Below.refl _ _).alloc (Nat.le_refl _) _
                     have hq12 := hq11.below (rd_coder b1) (wr_coder b2) hal
                     have K12 := hid (HCL.out _ hq12.b hq12.T.bel)
                     have hal2 : Below w11.heap.size w11 (w11.alloc (.cells #[.int .i64 q.kind, .int .i64 q.mode, .int .i64 m0, .int .i64 m1, .int .i64 m2', .int .i64 m3, .int .i64 q.x, .int .i64 q.y, .slice B0 k0' k0', .slice B1 k1' k1', .slice B2 k2' k2', .slice B3 k3' k3', .slice B4 k4' k4'] 60)) := (Below.refl _ _).alloc (Nat.le_refl _) _
                     have hq13 := hq11.below (rd_coder b1) (wr_coder b2) hal2
                     have K13 := hid (HCL.out _ hq13.b hq13.T.bel)
                     have SA := hid (And.intro hq13 (And.intro (show SqBlk (w11.alloc (.cells #[.int .i64 q.kind, .int .i64 q.mode, .int .i64 m0, .int .i64 m1, .int .i64 m2', .int .i64 m3, .int .i64 q.x, .int .i64 q.y, .slice B0 k0' k0', .slice B1 k1' k1', .slice B2 k2' k2', .slice B3 k3' k3', .slice B4 k4' k4'] 60)) w11.heap.size 60 q.kind q.mode [m0, m1, m2', m3] q.x q.y (.slice B0 k0' k0') [.slice B1 k1' k1', .slice B2 k2' k2', .slice B3 k3' k3', .slice B4 k4' k4'] from SqBlk.of (Blk.new _ _ _) rfl) (And.intro (z0.nums.below hal2) (And.intro (z1.nums.below hal2) (And.intro (z2.nums.below hal2) (And.intro (z3.nums.below hal2) (z4.nums.below hal2)))))))
                     unfold sqV
                     clear hN hcw hqm' hqs' z0 z1 z2 z3 z4 hq11 hal hq12 hal2 hq13)
                  | fail)
              all_goals
                go_wp2_with fail
                go_meet
                first
                  | exact ⟨_, B0, B1, B2, B3, B4, k0', k1', k2', k3', k4', G11, rfl, rfl, SA.out⟩
                  | exact ⟨_, B0, B1, B2, B3, B4, k0', k1', k2', k3', k4', G11, rfl, rfl, SB.out⟩
            case rest =>
             obtain ⟨g10, B0, B1, B2, B3, B4, k0', k1', k2', k3', k4', G11, rfl, rfl, hS⟩ := hcut
             have S13 := hid hS
             clear hS K9 K9d QB KB
             generalize hwt : (wrM.run (codeA true q) t).2 = t11 at *
             have HW := hid hwt
             clear hwt
             have hcel2 : ∀ W, SqBlk W g10 60 q.kind q.mode [m0, m1, m2', m3] q.x q.y (.slice B0 k0' k0') [.slice B1 k1' k1', .slice B2 k2' k2', .slice B3 k3' k3', .slice B4 k4' k4'] → W.cell? ⟨g10, 0, none⟩ = some (.int .i64 q.kind) ∧ W.cell? ⟨g10, 1, none⟩ = some (.int .i64 q.mode) ∧ W.cell? ⟨g10, 2, none⟩ = some (.int .i64 m0) ∧ W.cell? ⟨g10, 3, none⟩ = some (.int .i64 m1) ∧ W.cell? ⟨g10, 4, none⟩ = some (.int .i64 m2') ∧ W.cell? ⟨g10, 5, none⟩ = some (.int .i64 m3) ∧ W.cell? ⟨g10, 6, none⟩ = some (.int .i64 q.x) ∧ W.cell? ⟨g10, 7, none⟩ = some (.int .i64 q.y) ∧ W.cell? ⟨g10, 8, none⟩ = some (.slice B0 k0' k0') ∧ W.cell? ⟨g10, 9, none⟩ = some (.slice B1 k1' k1') ∧ W.cell? ⟨g10, 10, none⟩ = some (.slice B2 k2' k2') ∧ W.cell? ⟨g10, 11, none⟩ = some (.slice B3 k3' k3') ∧ W.cell? ⟨g10, 12, none⟩ = some (.slice B4 k4' k4') := by
               intro W h
               obtain ⟨⟨c0, c1⟩, ⟨c2, c3, c4, c5⟩, ⟨c6, c7, c8⟩, c9, c10, c11, c12⟩ := h.all4
               exact ⟨c0, c1, c2, c3, c4, c5, c6, c7, c8, c9, c10, c11, c12⟩
             have HCL2 := hid hcel2
             have HPL := hid (fun W => plain20 q.kind q.mode m0 m1 m2' m3 q.x q.y A0 A1 A2 A3 A4 n0 n1 n2 n3 n4 n0 n1 n2 n3 n4 W)
             have HSM := hid (fun W (hb : Below wc.heap.size wc W) => same_any q.kind q.mode m0 m1 m2' m3 q.x q.y (.slice B0 k0' k0') (.slice B1 k1' k1') (.slice B2 k2' k2') (.slice B3 k3' k3') (.slice B4 k4' k4') (.slice A0 n0 n0) (.slice A1 n1 n1) (.slice A2 n2 n2) (.slice A3 n3 n3) (.slice A4 n4 n4) q.large l0 l1 l2 l3 W (by
               intro p hp
               simp only [List.mem_cons, List.not_mem_nil, or_false] at hp
               rcases hp with rfl | rfl | rfl | rfl | rfl | rfl | rfl | rfl | rfl | rfl
               · exact S13.out.2.2.1.below hb
               · exact S13.out.2.2.2.1.below hb
               · exact S13.out.2.2.2.2.1.below hb
               · exact S13.out.2.2.2.2.2.1.below hb
               · exact S13.out.2.2.2.2.2.2.below hb
               · exact ((S13.out.1.n (.slice A0 n0 n0, q.large) (by simp)).n).below hb
               · exact ((S13.out.1.n (.slice A1 n1 n1, l0) (by simp)).n).below hb
               · exact ((S13.out.1.n (.slice A2 n2 n2, l1) (by simp)).n).below hb
               · exact ((S13.out.1.n (.slice A3 n3 n3, l2) (by simp)).n).below hb
               · exact ((S13.out.1.n (.slice A4 n4 n4, l3) (by simp)).n).below hb) HL.out)
             unfold sqV at HPL HSM
             have D13 := hid (And.intro (S13.out.1.below (rd_coder b1) (wr_coder b2) (Below.refl wc.heap.size wc).drew) S13.out.2.1.drew)
             have KJ := hid (And.intro (HCL.out _ S13.out.1.b S13.out.1.T.bel) (hcel2 _ S13.out.2.1))
             have KJd := hid (And.intro (HCL.out _ D13.out.1.b D13.out.1.T.bel) (hcel2 _ D13.out.2))
             clear hcel2
             go_wp2_with fail
             go_region_held_law (fun W => (W.cell? ⟨w6.heap.size, 0, none⟩ = some (.int .i64 q.kind) ∧ W.cell? ⟨w6.heap.size, 1, none⟩ = some (.int .i64 q.mode) ∧ W.cell? ⟨w6.heap.size, 2, none⟩ = some (.int .i64 m0) ∧ W.cell? ⟨w6.heap.size, 3, none⟩ = some (.int .i64 m1) ∧ W.cell? ⟨w6.heap.size, 4, none⟩ = some (.int .i64 m2') ∧ W.cell? ⟨w6.heap.size, 5, none⟩ = some (.int .i64 m3) ∧ W.cell? ⟨w6.heap.size, 6, none⟩ = some (.int .i64 q.x) ∧ W.cell? ⟨w6.heap.size, 7, none⟩ = some (.int .i64 q.y) ∧ W.cell? ⟨w6.heap.size, 8, none⟩ = some (.slice A0 n0 n0) ∧ W.cell? ⟨w6.heap.size, 9, none⟩ = some (.slice A1 n1 n1) ∧ W.cell? ⟨w6.heap.size, 10, none⟩ = some (.slice A2 n2 n2) ∧ W.cell? ⟨w6.heap.size, 11, none⟩ = some (.slice A3 n3 n3) ∧ W.cell? ⟨w6.heap.size, 12, none⟩ = some (.slice A4 n4 n4) ∧ W.cell? ⟨b4, o4 + i, none⟩ = some (.bool true)) ∧ (W.cell? ⟨g10, 0, none⟩ = some (.int .i64 q.kind) ∧ W.cell? ⟨g10, 1, none⟩ = some (.int .i64 q.mode) ∧ W.cell? ⟨g10, 2, none⟩ = some (.int .i64 m0) ∧ W.cell? ⟨g10, 3, none⟩ = some (.int .i64 m1) ∧ W.cell? ⟨g10, 4, none⟩ = some (.int .i64 m2') ∧ W.cell? ⟨g10, 5, none⟩ = some (.int .i64 m3) ∧ W.cell? ⟨g10, 6, none⟩ = some (.int .i64 q.x) ∧ W.cell? ⟨g10, 7, none⟩ = some (.int .i64 q.y) ∧ W.cell? ⟨g10, 8, none⟩ = some (.slice B0 k0' k0') ∧ W.cell? ⟨g10, 9, none⟩ = some (.slice B1 k1' k1') ∧ W.cell? ⟨g10, 10, none⟩ = some (.slice B2 k2' k2') ∧ W.cell? ⟨g10, 11, none⟩ = some (.slice B3 k3' k3') ∧ W.cell? ⟨g10, 12, none⟩ = some (.slice B4 k4' k4')))
               (with_reducible first | exact KJ15.out | exact KJ14.out | exact KJd.out | exact KJ.out)
               (first
                 | (go_at_call 20
                    have hN := Q14.out
                    refine (HSM.out _ (by exact hN.2.2)).mono ?_
                    rintro e w15 ⟨rfl, hb⟩
                    have Q15 := hid (And.intro (hN.1.below (rd_coder b1) (wr_coder b2) hb) (hN.2.1.below hb))
                    have KJ15 := hid (And.intro (HCL.out _ Q15.out.1.b Q15.out.1.T.bel) (HCL2.out _ Q15.out.2))
                    clear hN hb)
                 | (go_at_call 22
                    have hN := D13.out
                    refine (HPL.out _).mono ?_
                    rintro e w14 ⟨rfl, hb⟩
                    have Q14 := hid (And.intro (hN.1.below (rd_coder b1) (wr_coder b2) hb) (And.intro (hN.2.below hb) (show Below wc.heap.size wc w14 from ((Below.refl wc.heap.size wc).drew).trans hb)))
                    have KJ14 := hid (And.intro (HCL.out _ Q14.out.1.b Q14.out.1.T.bel) (HCL2.out _ Q14.out.2.1))
                    clear hN hb)
                 | fail)
             go_wp2_with fail
             go_roundg (gk - 1)
             case measure => have := HI.out; omega
             case rel => exact ⟨i + 1, s6, t11, F6, G11, m6, m9, by have := HI.out; omega, by go_num, by have := HI.out; omega, Q15.out.1.T, by have := R7.out.2.2.2.2.2.2; have := OK9.out.2; omega, R7.out.2.2.2.2.2.1, OK9.out.1⟩
          | false =>
            go_cut [97] from 72 to 98 (fun v W => v = .bool false ∧ KQ w (AtRd b1) (AtWr b2) F6 G s6 t w6.heap.size q m0 m1 m2' m3 (.slice A0 n0 n0) (.slice A1 n1 n1) (.slice A2 n2 n2) (.slice A3 n3 n3) (.slice A4 n4 n4) l0 l1 l2 l3 W)
            case first =>
              obtain ⟨ka0, ka1, ka2, ka3, ka4, ka5, ka6, ka7, ka8, ka9, ka10, ka11, ka12, ka13⟩ := K7.out
              obtain ⟨kb0, kb1, kb2, kb3, kb4, kb5, kb6, kb7, kb8, kb9, kb10, kb11, kb12, kb13⟩ := K7d.out
              go_wp2_with fail
              first
                | (go_region_with (first
                    | (go_at_call 20
                       have hN := Q8.out
                       refine (HSM.out _ (by exact hN.2)).mono ?_
                       rintro e w9 ⟨rfl, hb⟩
                       have Q9 := hid (hN.1.below (rd_coder b1) (wr_coder b2) hb)
                       clear hN hb)
                    | (go_at_call 21
                       refine (HPT.out _).mono ?_
                       rintro e w8 ⟨rfl, hb⟩
                       have Q8 := hid (And.intro (Q7d.out.below (rd_coder b1) (wr_coder b2) hb) (show Below w7.heap.size w7 w8 from ((Below.refl w7.heap.size w7).drew).trans hb))
                       obtain ⟨kc0, kc1, kc2, kc3, kc4, kc5, kc6, kc7, kc8, kc9, kc10, kc11, kc12, kc13⟩ := HCL.out _ Q8.out.1.b Q8.out.1.T.bel
                       clear hb)))
                | fail
              all_goals
                go_wp2_with fail
                go_meet
                exact ⟨rfl, Q9.out⟩
            case rest =>
              obtain ⟨rfl, hq9⟩ := hcut
              obtain ⟨w9, hw9⟩ : ∃ z, z = wc := ⟨_, rfl⟩
              subst hw9
              have Q9 := hid hq9
              have K9 := hid (HCL.out _ hq9.b hq9.T.bel)
              clear hq9
              go_upto_region 14 with fail
              have Q9d := hid (Q9.out.below (rd_coder b1) (wr_coder b2) (Below.refl w9.heap.size w9).drew)
              have K9d := hid (HCL.out _ Q9d.out.b Q9d.out.T.bel)
              have hal9 : Below w9.heap.size w9 (w9.alloc (.cells #[.int .i64 0, .int .i64 0, .int .i64 0, .int .i64 0, .int .i64 0, .int .i64 0, .int .i64 0, .int .i64 0, nilS, nilS, nilS, nilS, nilS] 60)).drew := ((Below.refl w9.heap.size w9).alloc (Nat.le_refl _) _).drew
              have QB := hid (And.intro (Q9.out.below (rd_coder b1) (wr_coder b2) hal9) (And.intro (show SqBlk (w9.alloc (.cells #[.int .i64 0, .int .i64 0, .int .i64 0, .int .i64 0, .int .i64 0, .int .i64 0, .int .i64 0, .int .i64 0, nilS, nilS, nilS, nilS, nilS] 60)).drew w9.heap.size 60 0 0 [] 0 0 nilS [] from SqBlk.drew (SqBlk.new (Blk.new _ _ _) rfl)) (And.intro (show ¬ G w9.heap.size from fun e => by have := (wr_coder b2).there _ _ _ _ Q9.out.T.r e; omega) (show w.heap.size ≤ w9.heap.size ∧ w6.heap.size < w9.heap.size ∧ ¬ F6 w9.heap.size from ⟨Q9.out.T.size, Q9.out.b.lt, fun e => by have := (rd_coder b1).there _ _ _ _ Q9.out.T.l e; omega⟩))))
              have KB := hid (HCL.out _ QB.out.1.b QB.out.1.T.bel)
              have hask := R7.out.1.ask
              have hT := echo_told echo_wr R7.out.1 R7.out.2.2.1 t
              rw [R7.out.2.1] at hT
              have HT := hid (And.intro hask hT)
              obtain ⟨m9, hm9, hok9⟩ := ok_code20 (wr_coder b2) false q (by rw [R7.out.2.2.1.1]; omega) t m2 O.out.2.2
              have OK9 := hid (And.intro hok9 hm9)
              clear hask hT HPT HSM K7 K7d hm9 hok9 hal9
              go_cut [10, 11] from 98 to 109 (fun a b W => ∃ (g : Nat) (B0 B1 B2 B3 B4 : Option Addr) (k0' k1' k2' k3' k4' : Nat) (G11 : Nat → Prop), a = .pointer (some ⟨g, 0, none⟩) ∧ b = .nilIface ∧ KQ w (AtRd b1) (AtWr b2) F6 G11 s6 (wrM.run (codeA false q) t).2 w6.heap.size q m0 m1 m2' m3 (.slice A0 n0 n0) (.slice A1 n1 n1) (.slice A2 n2 n2) (.slice A3 n3 n3) (.slice A4 n4 n4) l0 l1 l2 l3 W ∧ SqBlk W g 60 q.kind q.mode [m0, m1, m2', m3] q.x q.y (.slice B0 k0' k0') [.slice B1 k1' k1', .slice B2 k2' k2', .slice B3 k3' k3', .slice B4 k4' k4'] ∧ (Nums W (.slice B0 k0' k0') q.large ∧ Nums W (.slice B1 k1' k1') l0 ∧ Nums W (.slice B2 k2' k2') l1 ∧ Nums W (.slice B3 k3' k3') l2 ∧ Nums W (.slice B4 k4' k4') l3))
              case first =>
                go_region_held_law (fun W => W.cell? ⟨w6.heap.size, 0, none⟩ = some (.int .i64 q.kind) ∧ W.cell? ⟨w6.heap.size, 1, none⟩ = some (.int .i64 q.mode) ∧ W.cell? ⟨w6.heap.size, 2, none⟩ = some (.int .i64 m0) ∧ W.cell? ⟨w6.heap.size, 3, none⟩ = some (.int .i64 m1) ∧ W.cell? ⟨w6.heap.size, 4, none⟩ = some (.int .i64 m2') ∧ W.cell? ⟨w6.heap.size, 5, none⟩ = some (.int .i64 m3) ∧ W.cell? ⟨w6.heap.size, 6, none⟩ = some (.int .i64 q.x) ∧ W.cell? ⟨w6.heap.size, 7, none⟩ = some (.int .i64 q.y) ∧ W.cell? ⟨w6.heap.size, 8, none⟩ = some (.slice A0 n0 n0) ∧ W.cell? ⟨w6.heap.size, 9, none⟩ = some (.slice A1 n1 n1) ∧ W.cell? ⟨w6.heap.size, 10, none⟩ = some (.slice A2 n2 n2) ∧ W.cell? ⟨w6.heap.size, 11, none⟩ = some (.slice A3 n3 n3) ∧ W.cell? ⟨w6.heap.size, 12, none⟩ = some (.slice A4 n4 n4) ∧ W.cell? ⟨b4, o4 + i, none⟩ = some (.bool false))
                  (with_reducible first | exact K13.out | exact K12.out | exact K11.out | exact KB3.out | exact KB2.out | exact KB.out | exact K9d.out | exact K9.out)
                  (first
                    | (go_at_call 19
                       have hN := QB.out.1
                       refine (wcode20 b2 false _ q m0 m1 m2' m3 (.slice A0 n0 n0) (.slice A1 n1 n1) (.slice A2 n2 n2) (.slice A3 n3 n3) (.slice A4 n4 n4) l0 l1 l2 l3 t (w9.alloc (.cells #[.int .i64 0, .int .i64 0, .int .i64 0, .int .i64 0, .int .i64 0, .int .i64 0, .int .i64 0, .int .i64 0, nilS, nilS, nilS, nilS, nilS] 60)).drew G m2 ⟨⟨rfl, R7.out.2.2.2.1⟩, R7.out.2.2.2.2.1, (hN.n (.slice A0 n0 n0, q.large) (by simp)).n, (hN.n (.slice A1 n1 n1, l0) (by simp)).n, (hN.n (.slice A2 n2 n2, l1) (by simp)).n, (hN.n (.slice A3 n3 n3, l2) (by simp)).n, (hN.n (.slice A4 n4 n4, l3) (by simp)).n⟩ (by exact hN.T.r) O.out.2.2 (by omega) HT.out.1 (fun _ p hp => hN.n p (List.mem_cons_of_mem _ hp)) (fun _ => hN.n (.slice A0 n0 n0, q.large) (by simp))).mono ?_
                       rintro e w11 ⟨G11, hcw, hans⟩
                       rw [HT.out.2] at hans
                       obtain ⟨v11, rfl, hv11⟩ := hans
                       obtain ⟨p0, p1, p2, p3, lv', v0', v1', v2', v3', j0, j1, j2, j3, rfl, hqm', hqs', z0, z1, z2, z3, z4⟩ := hv11
                       obtain ⟨rfl, rfl, rfl, rfl⟩ : m0 = p0 ∧ m1 = p1 ∧ m2' = p2 ∧ m3 = p3 := by simpa using R7.out.2.2.2.1.symm.trans hqm'
                       obtain ⟨rfl, rfl, rfl, rfl⟩ : l0 = j0 ∧ l1 = j1 ∧ l2 = j2 ∧ l3 = j3 := by simpa using R7.out.2.2.2.2.1.symm.trans hqs'
                       obtain ⟨B0, k0', rfl⟩ := lst_form z0
                       obtain ⟨B1, k1', rfl⟩ := lst_form z1
                       obtain ⟨B2, k2', rfl⟩ := lst_form z2
                       obtain ⟨B3, k3', rfl⟩ := lst_form z3
                       obtain ⟨B4, k4', rfl⟩ := lst_form z4
                       have hq11 := hN.right (rd_coder b1) hcw
                       have hb11 := QB.out.2.1.keep hcw.o QB.out.2.2.1
                       have hG11 : ¬ G11 w9.heap.size := fun e => by
                         rcases hcw.f _ e with e | e
                         · exact QB.out.2.2.1 e
                         · have := QB.out.2.1.lt; omega
                       have KB2 := hid (HCL.out _ hq11.b hq11.T.bel)
                       have ho := only13 w11 w9.heap.size q.kind q.mode m0 m1 m2' m3 q.x q.y (.slice B0 k0' k0') (.slice B1 k1' k1') (.slice B2 k2' k2') (.slice B3 k3' k3') (.slice B4 k4' k4')
                       have hne := QB.out.2.2.2
                       have hB9 : ∀ k, k = w9.heap.size → ¬ k = w6.heap.size := fun k e => by omega
                       have hT13 := hq11.T.keep (rd_coder b1) (wr_coder b2) ho (fun k hk e => hne.2.2 (by rw [← e]; exact hk)) (fun k hk e => hG11 (by rw [← e]; exact hk)) (fun k hk e => by omega)
                       have hb13 := hq11.b.keep ho (by omega)
                       have KB3 := hid (HCL.out _ hb13 hT13.bel)
                       have hlt11 := hb11.lt
                       have hgz : ∀ (v : Value) (l : List Int), Lst (w9.alloc (.cells #[.int .i64 0, .int .i64 0, .int .i64 0, .int .i64 0, .int .i64 0, .int .i64 0, .int .i64 0, .int .i64 0, nilS, nilS, nilS, nilS, nilS] 60)).drew v l w11 G11 → Nums (((((((((((((w11.setCell ⟨w9.heap.size, 0, none⟩ (.int .i64 q.kind)).setCell ⟨w9.heap.size, 1, none⟩ (.int .i64 q.mode)).setCell ⟨w9.heap.size, 2, none⟩ (.int .i64 m0)).setCell ⟨w9.heap.size, 3, none⟩ (.int .i64 m1)).setCell ⟨w9.heap.size, 4, none⟩ (.int .i64 m2')).setCell ⟨w9.heap.size, 5, none⟩ (.int .i64 m3)).setCell ⟨w9.heap.size, 6, none⟩ (.int .i64 q.x)).setCell ⟨w9.heap.size, 7, none⟩ (.int .i64 q.y)).setCell ⟨w9.heap.size, 8, none⟩ (.slice B0 k0' k0')).setCell ⟨w9.heap.size, 9, none⟩ (.slice B1 k1' k1')).setCell ⟨w9.heap.size, 10, none⟩ (.slice B2 k2' k2')).setCell ⟨w9.heap.size, 11, none⟩ (.slice B3 k3' k3')).setCell ⟨w9.heap.size, 12, none⟩ (.slice B4 k4' k4')) v l := fun v l h => h.nums.keepO ho (fun k hk e => by
                         rcases h with ⟨rfl, _⟩ | ⟨g, rfl, h2⟩
                         · simp [Value.ownBlock] at hk
                         · have e2 : g = k := by simpa [Value.ownBlock] using hk
                           have := h2.lo
                           have : (w9.alloc (.cells #[.int .i64 0, .int .i64 0, .int .i64 0, .int .i64 0, .int .i64 0, .int .i64 0, .int .i64 0, .int .i64 0, nilS, nilS, nilS, nilS, nilS] 60)).drew.heap.size = w9.heap.size + 1 := by show (w9.alloc _).heap.size = _; simp
                           omega)
                       have SB := hid (And.intro (show KQ w (AtRd b1) (AtWr b2) F6 G11 s6 (wrM.run (codeA false q) t).2 w6.heap.size q m0 m1 m2' m3 (.slice A0 n0 n0) (.slice A1 n1 n1) (.slice A2 n2 n2) (.slice A3 n3 n3) (.slice A4 n4 n4) l0 l1 l2 l3 (((((((((((((w11.setCell ⟨w9.heap.size, 0, none⟩ (.int .i64 q.kind)).setCell ⟨w9.heap.size, 1, none⟩ (.int .i64 q.mode)).setCell ⟨w9.heap.size, 2, none⟩ (.int .i64 m0)).setCell ⟨w9.heap.size, 3, none⟩ (.int .i64 m1)).setCell ⟨w9.heap.size, 4, none⟩ (.int .i64 m2')).setCell ⟨w9.heap.size, 5, none⟩ (.int .i64 m3)).setCell ⟨w9.heap.size, 6, none⟩ (.int .i64 q.x)).setCell ⟨w9.heap.size, 7, none⟩ (.int .i64 q.y)).setCell ⟨w9.heap.size, 8, none⟩ (.slice B0 k0' k0')).setCell ⟨w9.heap.size, 9, none⟩ (.slice B1 k1' k1')).setCell ⟨w9.heap.size, 10, none⟩ (.slice B2 k2' k2')).setCell ⟨w9.heap.size, 11, none⟩ (.slice B3 k3' k3')).setCell ⟨w9.heap.size, 12, none⟩ (.slice B4 k4' k4')) from ⟨hT13, hb13, hq11.oF, hq11.oG, fun p hp => ⟨(hq11.n p hp).n.keepO ho (fun k hk e => by have := (Q9.out.n p hp).b k hk; omega), (hq11.n p hp).f, fun k hk => Nat.lt_of_lt_of_le ((hq11.n p hp).b k hk) ho.size⟩⟩) (And.intro (hb11.set13 q.kind q.mode m0 m1 m2' m3 q.x q.y (.slice B0 k0' k0') (.slice B1 k1' k1') (.slice B2 k2' k2') (.slice B3 k3' k3') (.slice B4 k4' k4')) (And.intro (hgz _ _ z0) (And.intro (hgz _ _ z1) (And.intro (hgz _ _ z2) (And.intro (hgz _ _ z3) (hgz _ _ z4)))))))
                       obtain ⟨⟨r0, r1⟩, ⟨r2, r3, r4, r5⟩, ⟨r6, r7, r8⟩, r9, r10, r11, r12⟩ := hb11.all4'
                       have fz0 := hb11.frozen 0
                       have fz1 := hb11.frozen 1
                       have fz2 := hb11.frozen 2
                       have fz3 := hb11.frozen 3
                       have fz4 := hb11.frozen 4
                       have fz5 := hb11.frozen 5
                       have fz6 := hb11.frozen 6
                       have fz7 := hb11.frozen 7
                       have fz8 := hb11.frozen 8
                       have fz9 := hb11.frozen 9
                       have fz10 := hb11.frozen 10
                       have fz11 := hb11.frozen 11
                       have fz12 := hb11.frozen 12
                       unfold sqV
                       clear hN hcw hqm' hqs' z0 z1 z2 z3 z4 hq11 hb11 ho hne hB9 hT13 hb13 hgz hlt11 hG11)
                    | (go_at_call 19
                       have hN := Q9d.out
                       refine (wcode20 b2 false _ q m0 m1 m2' m3 (.slice A0 n0 n0) (.slice A1 n1 n1) (.slice A2 n2 n2) (.slice A3 n3 n3) (.slice A4 n4 n4) l0 l1 l2 l3 t w9.drew G m2 ⟨⟨rfl, R7.out.2.2.2.1⟩, R7.out.2.2.2.2.1, (hN.n (.slice A0 n0 n0, q.large) (by simp)).n, (hN.n (.slice A1 n1 n1, l0) (by simp)).n, (hN.n (.slice A2 n2 n2, l1) (by simp)).n, (hN.n (.slice A3 n3 n3, l2) (by simp)).n, (hN.n (.slice A4 n4 n4, l3) (by simp)).n⟩ (by exact hN.T.r) O.out.2.2 (by omega) HT.out.1 (fun _ p hp => hN.n p (List.mem_cons_of_mem _ hp)) (fun _ => hN.n (.slice A0 n0 n0, q.large) (by simp))).mono ?_
                       rintro e w11 ⟨G11, hcw, hans⟩
                       rw [HT.out.2] at hans
                       obtain ⟨v11, rfl, hv11⟩ := hans
                       obtain ⟨p0, p1, p2, p3, lv', v0', v1', v2', v3', j0, j1, j2, j3, rfl, hqm', hqs', z0, z1, z2, z3, z4⟩ := hv11
                       obtain ⟨rfl, rfl, rfl, rfl⟩ : m0 = p0 ∧ m1 = p1 ∧ m2' = p2 ∧ m3 = p3 := by simpa using R7.out.2.2.2.1.symm.trans hqm'
                       obtain ⟨rfl, rfl, rfl, rfl⟩ : l0 = j0 ∧ l1 = j1 ∧ l2 = j2 ∧ l3 = j3 := by simpa using R7.out.2.2.2.2.1.symm.trans hqs'
                       obtain ⟨B0, k0', rfl⟩ := lst_form z0
                       obtain ⟨B1, k1', rfl⟩ := lst_form z1
                       obtain ⟨B2, k2', rfl⟩ := lst_form z2
                       obtain ⟨B3, k3', rfl⟩ := lst_form z3
                       obtain ⟨B4, k4', rfl⟩ := lst_form z4
                       have hq11 := hN.right (rd_coder b1) hcw
                       have K11 := hid (HCL.out _ hq11.b hq11.T.bel)
                       have hal : Below w11.heap.size w11 (w11.alloc (.cells #[.int .i64 0, .int .i64 0, .int .i64 0, .int .i64 0, .int .i64 0, .int .i64 0, .int .i64 0, .int .i64 0, nilS, nilS, nilS, nilS, nilS] 60)) := (Below.refl _ _).alloc (Nat.le_refl _) _
                       have hq12 := hq11.below (rd_coder b1) (wr_coder b2) hal
                       have K12 := hid (HCL.out _ hq12.b hq12.T.bel)
                       have hal2 : Below w11.heap.size w11 (w11.alloc (.cells #[.int .i64 q.kind, .int .i64 q.mode, .int .i64 m0, .int .i64 m1, .int .i64 m2', .int .i64 m3, .int .i64 q.x, .int .i64 q.y, .slice B0 k0' k0', .slice B1 k1' k1', .slice B2 k2' k2', .slice B3 k3' k3', .slice B4 k4' k4'] 60)) := (Below.refl _ _).alloc (Nat.le_refl _) _
                       have hq13 := hq11.below (rd_coder b1) (wr_coder b2) hal2
                       have K13 := hid (HCL.out _ hq13.b hq13.T.bel)
                       have SA := hid (And.intro hq13 (And.intro (show SqBlk (w11.alloc (.cells #[.int .i64 q.kind, .int .i64 q.mode, .int .i64 m0, .int .i64 m1, .int .i64 m2', .int .i64 m3, .int .i64 q.x, .int .i64 q.y, .slice B0 k0' k0', .slice B1 k1' k1', .slice B2 k2' k2', .slice B3 k3' k3', .slice B4 k4' k4'] 60)) w11.heap.size 60 q.kind q.mode [m0, m1, m2', m3] q.x q.y (.slice B0 k0' k0') [.slice B1 k1' k1', .slice B2 k2' k2', .slice B3 k3' k3', .slice B4 k4' k4'] from SqBlk.of (Blk.new _ _ _) rfl) (And.intro (z0.nums.below hal2) (And.intro (z1.nums.below hal2) (And.intro (z2.nums.below hal2) (And.intro (z3.nums.below hal2) (z4.nums.below hal2)))))))
                       unfold sqV
                       clear hN hcw hqm' hqs' z0 z1 z2 z3 z4 hq11 hal hq12 hal2 hq13)
                    | fail)
                all_goals
                  go_wp2_with fail
                  go_meet
                  first
                    | exact ⟨_, B0, B1, B2, B3, B4, k0', k1', k2', k3', k4', G11, rfl, rfl, SA.out⟩
                    | exact ⟨_, B0, B1, B2, B3, B4, k0', k1', k2', k3', k4', G11, rfl, rfl, SB.out⟩
              case rest =>
               obtain ⟨g10, B0, B1, B2, B3, B4, k0', k1', k2', k3', k4', G11, rfl, rfl, hS⟩ := hcut
               have S13 := hid hS
               clear hS K9 K9d QB KB
               generalize hwt : (wrM.run (codeA false q) t).2 = t11 at *
               have HW := hid hwt
               clear hwt
               have hcel2 : ∀ W, SqBlk W g10 60 q.kind q.mode [m0, m1, m2', m3] q.x q.y (.slice B0 k0' k0') [.slice B1 k1' k1', .slice B2 k2' k2', .slice B3 k3' k3', .slice B4 k4' k4'] → W.cell? ⟨g10, 0, none⟩ = some (.int .i64 q.kind) ∧ W.cell? ⟨g10, 1, none⟩ = some (.int .i64 q.mode) ∧ W.cell? ⟨g10, 2, none⟩ = some (.int .i64 m0) ∧ W.cell? ⟨g10, 3, none⟩ = some (.int .i64 m1) ∧ W.cell? ⟨g10, 4, none⟩ = some (.int .i64 m2') ∧ W.cell? ⟨g10, 5, none⟩ = some (.int .i64 m3) ∧ W.cell? ⟨g10, 6, none⟩ = some (.int .i64 q.x) ∧ W.cell? ⟨g10, 7, none⟩ = some (.int .i64 q.y) ∧ W.cell? ⟨g10, 8, none⟩ = some (.slice B0 k0' k0') ∧ W.cell? ⟨g10, 9, none⟩ = some (.slice B1 k1' k1') ∧ W.cell? ⟨g10, 10, none⟩ = some (.slice B2 k2' k2') ∧ W.cell? ⟨g10, 11, none⟩ = some (.slice B3 k3' k3') ∧ W.cell? ⟨g10, 12, none⟩ = some (.slice B4 k4' k4') := by
                 intro W h
                 obtain ⟨⟨c0, c1⟩, ⟨c2, c3, c4, c5⟩, ⟨c6, c7, c8⟩, c9, c10, c11, c12⟩ := h.all4
                 exact ⟨c0, c1, c2, c3, c4, c5, c6, c7, c8, c9, c10, c11, c12⟩
               have HCL2 := hid hcel2
               have HPL := hid (fun W => plain20 q.kind q.mode m0 m1 m2' m3 q.x q.y A0 A1 A2 A3 A4 n0 n1 n2 n3 n4 n0 n1 n2 n3 n4 W)
               have HSM := hid (fun W (hb : Below wc.heap.size wc W) => same_any q.kind q.mode m0 m1 m2' m3 q.x q.y (.slice B0 k0' k0') (.slice B1 k1' k1') (.slice B2 k2' k2') (.slice B3 k3' k3') (.slice B4 k4' k4') (.slice A0 n0 n0) (.slice A1 n1 n1) (.slice A2 n2 n2) (.slice A3 n3 n3) (.slice A4 n4 n4) q.large l0 l1 l2 l3 W (by
                 intro p hp
                 simp only [List.mem_cons, List.not_mem_nil, or_false] at hp
                 rcases hp with rfl | rfl | rfl | rfl | rfl | rfl | rfl | rfl | rfl | rfl
                 · exact S13.out.2.2.1.below hb
                 · exact S13.out.2.2.2.1.below hb
                 · exact S13.out.2.2.2.2.1.below hb
                 · exact S13.out.2.2.2.2.2.1.below hb
                 · exact S13.out.2.2.2.2.2.2.below hb
                 · exact ((S13.out.1.n (.slice A0 n0 n0, q.large) (by simp)).n).below hb
                 · exact ((S13.out.1.n (.slice A1 n1 n1, l0) (by simp)).n).below hb
                 · exact ((S13.out.1.n (.slice A2 n2 n2, l1) (by simp)).n).below hb
                 · exact ((S13.out.1.n (.slice A3 n3 n3, l2) (by simp)).n).below hb
                 · exact ((S13.out.1.n (.slice A4 n4 n4, l3) (by simp)).n).below hb) HL.out)
               unfold sqV at HPL HSM
               have D13 := hid (And.intro (S13.out.1.below (rd_coder b1) (wr_coder b2) (Below.refl wc.heap.size wc).drew) S13.out.2.1.drew)
               have KJ := hid (And.intro (HCL.out _ S13.out.1.b S13.out.1.T.bel) (hcel2 _ S13.out.2.1))
               have KJd := hid (And.intro (HCL.out _ D13.out.1.b D13.out.1.T.bel) (hcel2 _ D13.out.2))
               clear hcel2
               go_wp2_with fail
               go_region_held_law (fun W => (W.cell? ⟨w6.heap.size, 0, none⟩ = some (.int .i64 q.kind) ∧ W.cell? ⟨w6.heap.size, 1, none⟩ = some (.int .i64 q.mode) ∧ W.cell? ⟨w6.heap.size, 2, none⟩ = some (.int .i64 m0) ∧ W.cell? ⟨w6.heap.size, 3, none⟩ = some (.int .i64 m1) ∧ W.cell? ⟨w6.heap.size, 4, none⟩ = some (.int .i64 m2') ∧ W.cell? ⟨w6.heap.size, 5, none⟩ = some (.int .i64 m3) ∧ W.cell? ⟨w6.heap.size, 6, none⟩ = some (.int .i64 q.x) ∧ W.cell? ⟨w6.heap.size, 7, none⟩ = some (.int .i64 q.y) ∧ W.cell? ⟨w6.heap.size, 8, none⟩ = some (.slice A0 n0 n0) ∧ W.cell? ⟨w6.heap.size, 9, none⟩ = some (.slice A1 n1 n1) ∧ W.cell? ⟨w6.heap.size, 10, none⟩ = some (.slice A2 n2 n2) ∧ W.cell? ⟨w6.heap.size, 11, none⟩ = some (.slice A3 n3 n3) ∧ W.cell? ⟨w6.heap.size, 12, none⟩ = some (.slice A4 n4 n4) ∧ W.cell? ⟨b4, o4 + i, none⟩ = some (.bool false)) ∧ (W.cell? ⟨g10, 0, none⟩ = some (.int .i64 q.kind) ∧ W.cell? ⟨g10, 1, none⟩ = some (.int .i64 q.mode) ∧ W.cell? ⟨g10, 2, none⟩ = some (.int .i64 m0) ∧ W.cell? ⟨g10, 3, none⟩ = some (.int .i64 m1) ∧ W.cell? ⟨g10, 4, none⟩ = some (.int .i64 m2') ∧ W.cell? ⟨g10, 5, none⟩ = some (.int .i64 m3) ∧ W.cell? ⟨g10, 6, none⟩ = some (.int .i64 q.x) ∧ W.cell? ⟨g10, 7, none⟩ = some (.int .i64 q.y) ∧ W.cell? ⟨g10, 8, none⟩ = some (.slice B0 k0' k0') ∧ W.cell? ⟨g10, 9, none⟩ = some (.slice B1 k1' k1') ∧ W.cell? ⟨g10, 10, none⟩ = some (.slice B2 k2' k2') ∧ W.cell? ⟨g10, 11, none⟩ = some (.slice B3 k3' k3') ∧ W.cell? ⟨g10, 12, none⟩ = some (.slice B4 k4' k4')))
                 (with_reducible first | exact KJ15.out | exact KJ14.out | exact KJd.out | exact KJ.out)
                 (first
                   | (go_at_call 20
                      have hN := Q14.out
                      refine (HSM.out _ (by exact hN.2.2)).mono ?_
                      rintro e w15 ⟨rfl, hb⟩
                      have Q15 := hid (And.intro (hN.1.below (rd_coder b1) (wr_coder b2) hb) (hN.2.1.below hb))
                      have KJ15 := hid (And.intro (HCL.out _ Q15.out.1.b Q15.out.1.T.bel) (HCL2.out _ Q15.out.2))
                      clear hN hb)
                   | (go_at_call 22
                      have hN := D13.out
                      refine (HPL.out _).mono ?_
                      rintro e w14 ⟨rfl, hb⟩
                      have Q14 := hid (And.intro (hN.1.below (rd_coder b1) (wr_coder b2) hb) (And.intro (hN.2.below hb) (show Below wc.heap.size wc w14 from ((Below.refl wc.heap.size wc).drew).trans hb)))
                      have KJ14 := hid (And.intro (HCL.out _ Q14.out.1.b Q14.out.1.T.bel) (HCL2.out _ Q14.out.2.1))
                      clear hN hb)
                   | fail)
               go_wp2_with fail
               go_roundg (gk - 1)
               case measure => have := HI.out; omega
               case rel => exact ⟨i + 1, s6, t11, F6, G11, m6, m9, by have := HI.out; omega, by go_num, by have := HI.out; omega, Q15.out.1.T, by have := R7.out.2.2.2.2.2.2; have := OK9.out.2; omega, R7.out.2.2.2.2.2.1, OK9.out.1⟩
        · dsimp only at g1 hkind
          subst g1
          obtain ⟨ev, rfl, hev⟩ := hans
          obtain ⟨tv, xv, hevf⟩ := hev.form
          subst hevf
          have hal : Below w6.heap.size w6 (w6.alloc (.cells #[.int .i64 0, .int .i64 0, .int .i64 0, .int .i64 0, .int .i64 0, .int .i64 0, .int .i64 0, .int .i64 0, nilS, nilS, nilS, nilS, nilS] 60)) := (Below.refl _ _).alloc (Nat.le_refl _) _
          have Q7 := hid (And.intro (hT6.below (rd_coder b1) (wr_coder b2) hal) (show SqBlk (w6.alloc (.cells #[.int .i64 0, .int .i64 0, .int .i64 0, .int .i64 0, .int .i64 0, .int .i64 0, .int .i64 0, .int .i64 0, nilS, nilS, nilS, nilS, nilS] 60)) w6.heap.size 60 0 0 [] 0 0 nilS [] from SqBlk.new (Blk.new _ _ _) rfl))
          clear hev hal hcw hT6 hok6 hm6 f0
          unfold zeroV sqV
          go_wp2_with fail
          generalize w6.alloc (.cells #[.int .i64 0, .int .i64 0, .int .i64 0, .int .i64 0, .int .i64 0, .int .i64 0, .int .i64 0, .int .i64 0, nilS, nilS, nilS, nilS, nilS] 60) = w7 at *
          refine (first20 _ (by exact HG.out.1.below Q7.out.1.bel HG.out.2)).mono ?_
          rintro e w8 ⟨rfl, hb⟩
          have Q8 := hid (And.intro (Q7.out.1.below (rd_coder b1) (wr_coder b2) hb) (Q7.out.2.below hb))
          obtain ⟨⟨r0, r1⟩, ⟨r2, r3, r4, r5⟩, ⟨r6, r7, r8⟩, r9, r10, r11, r12⟩ := Q8.out.2.all4'
          clear hb
          go_wp2_with fail
          go_ret
          exact ⟨rfl, Q8.out.1.bel⟩
end Go.Proofs.YtkkgpdejmcpcpaaDoor

