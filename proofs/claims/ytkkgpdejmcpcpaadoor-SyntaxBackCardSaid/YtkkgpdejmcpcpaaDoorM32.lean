/- Parts: XLawSBack, XSBackW, XOpenLaid. -/
import Derived.Test.YtkkgpdejmcpcpaaDoorM31
import Derived.Deep.RegionHeldLaw
import Derived.Test.YtkkgpdejmcpcpaaDoorRows
import Derived.Test.YtkkgpdejmcpcpaaDoorM02
import Derived.ChangeSame
import Derived.ChangeVars
import Derived.JoinedOf
import Derived.RowKit
import Derived.RowKitTokens
import Derived.LaidLaws
import Derived.LaidHandle
import Derived.Stop.Joined
import Derived.ProofKit
import Derived.OpenShut
import Derived.ChangeOld
import Derived.Deep.Slices
import Derived.Deep.Fields
/- SyntaxBack: the walk where the squares are few (DRAFT). -/
namespace Go.Proofs.YtkkgpdejmcpcpaaDoor
open Go.RowKit
set_option maxRecDepth 100000 in
set_option maxHeartbeats 16000000 in
theorem sback_good (x y : Value) (l : List SqS) (ks : List Bool) (j : SqS) (jm0 jm1 jm2 jm3 : Int) (JA JA0 JA1 JA2 JA3 : Option Addr) (jc jc0 jc1 jc2 jc3 : Nat) (jl0 jl1 jl2 jl3 : List Int) (w : World) (hx : Els w 13 (SquR w) x l) (hml : l.length ≤ maxLen) (hy : Els w 1 BoolR y ks) (_ : ks.length ≤ maxLen)
    (hj : SqLies w j (.slice JA j.large.length jc) (.slice JA0 jl0.length jc0) (.slice JA1 jl1.length jc1) (.slice JA2 jl2.length jc2) (.slice JA3 jl3.length jc3) jm0 jm1 jm2 jm3 jl0 jl1 jl2 jl3) (hg : ErrT w)
    (hgood : (l.length ≤ 100 ∧ ∀ s ∈ l, weighN s ≤ 20000) ∧ weighN j ≤ 20000) :
    Calls Tryd.prog 5 #[x, y, sqV j.kind j.mode jm0 jm1 jm2 jm3 j.x j.y (.slice JA j.large.length jc) (.slice JA0 jl0.length jc0) (.slice JA1 jl1.length jc1) (.slice JA2 jl2.length jc2) (.slice JA3 jl3.length jc3)] w fun e w' => e = .returned (.bool true) ∧ Below w.heap.size w w' := by
  obtain ⟨i0, hi0, hz0, hz1, hz2⟩ := info_parts info_int1
  have IP := hid (And.intro hi0 (And.intro hz0 (And.intro hz1 hz2)))
  clear hi0 hz0 hz1 hz2
  obtain ⟨A, c, rfl, hc⟩ := hx.form
  obtain ⟨B, d, rfl, hd⟩ := Els.form hy
  have hwj := hj.weigh
  have hb0 : Below w.heap.size w (w.alloc (.cells #[.int .i64 j.kind, .int .i64 j.mode, .int .i64 jm0, .int .i64 jm1, .int .i64 jm2, .int .i64 jm3, .int .i64 j.x, .int .i64 j.y, .slice JA j.large.length jc, .slice JA0 jl0.length jc0, .slice JA1 jl1.length jc1, .slice JA2 jl2.length jc2, .slice JA3 jl3.length jc3] 60)) := (Below.refl _ _).alloc (Nat.le_refl _) _
  have K0 := hid (And.intro hb0 (Blk.new w 60 #[.int .i64 j.kind, .int .i64 j.mode, .int .i64 jm0, .int .i64 jm1, .int .i64 jm2, .int .i64 jm3, .int .i64 j.x, .int .i64 j.y, .slice JA j.large.length jc, .slice JA0 jl0.length jc0, .slice JA1 jl1.length jc1, .slice JA2 jl2.length jc2, .slice JA3 jl3.length jc3]))
  have X := hid (And.intro (els_below hx hb0) hml)
  have Y := hid (hy.below hb0)
  have HG := hid (And.intro (hg.below hb0 hg.lt) (hg.below hb0 hg.lt).lt)
  have J := hid (hj.below hb0)
  have HL := hid hgood.1
  have HJ := hid hgood.2
  have HW := hid (fun W => weighs_any j.kind j.mode jm0 jm1 jm2 jm3 j.x j.y JA JA0 JA1 JA2 JA3 j.large.length jl0.length jl1.length jl2.length jl3.length jc jc0 jc1 jc2 jc3 W hj.nl.2 hj.n0.2 hj.n1.2 hj.n2.2 hj.n3.2)
  obtain ⟨tot, ht⟩ : ∃ q, q = weighN j := ⟨_, rfl⟩
  rw [← hwj, ← ht] at HW
  have htl : tot ≤ 20000 := by have := hgood.2; omega
  have d0 : decide (20000 < tot) = false := decide_eq_false (by omega)
  have d1 : decide ((20000 : Int) < (tot : Int)) = false := by simp; omega
  unfold sqV at HW ⊢
  clear hx hml hg hj hwj hb0 hgood hc hd hy ht htl
  go_enter Tryd.func5, Tryd.ntmps5
  go_wp2_with fail
  generalize (w.alloc _ : World) = w0 at *
  refine (first20 _ HG.out.1).mono ?_
  rintro e w1 ⟨rfl, h1⟩
  have B1 := hid h1
  clear h1
  go_wp2_with fail
  refine (new_wr _).mono ?_
  rintro e w2 ⟨b1, F1, rfl, ha1, hf1, hb1⟩
  have O2 := hid (show OwnC (AtWr b1) w0 Wr.new w2 F1 from ⟨ha1, fun k hk => Nat.le_trans B1.out.size (hf1 k hk), B1.out.trans (hb1.mono B1.out.size)⟩)
  clear ha1 hf1 hb1
  go_wp2_with fail
  refine (fewsq_any _ l _ (els_below X.out.1 O2.out.bel) X.out.2).mono ?_
  rintro e w3 ⟨q, rfl, hb3, hq⟩
  have O3 := hid (O2.out.below (wr_coder b1) hb3)
  have K3 := hid (K0.out.2.below O3.out.bel K0.out.2.lt)
  have HQ := hid hq
  clear hb3 hq
  cases q with
  | false =>
    go_wp2_with fail
    refine (first20 _ (by exact HG.out.1.below O3.out.bel HG.out.2)).mono ?_
    rintro e w4 ⟨rfl, hb4⟩
    have B4 := hid (K0.out.1.trans ((O3.out.bel.trans (hb4.mono O3.out.bel.size)).mono K0.out.1.size))
    clear hb4
    go_wp2_with fail
    go_ret
    exact ⟨rfl, B4.out⟩
  | true =>
    obtain ⟨⟨q0, q1⟩, ⟨q2, q3, q4, q5⟩, ⟨q6, q7, q8⟩, q9, q10, q11, q12⟩ := (SqBlk.of K3.out rfl).all4
    go_wp2_with fail
    refine (HW.out _).mono ?_
    rintro e w4 ⟨rfl, hb4⟩
    have D4 := hid (show DoneAt (AtWr b1) 3 (.slice none 0 0) 0 [] w0 (sqW []) w4 F1 from ⟨O3.out.below (wr_coder b1) hb4, World.ownsRow_nil _ _ _ _, fun k hk => by simp [Value.ownBlock] at hk⟩)
    clear hb4 q0 q1 q2 q3 q4 q5 q6 q7 q8 q9 q10 q11 q12
    go_wp2_with fail
    go_loopg [8, 9] l.length (fun k dv iv wr => ∃ (i : Nat) (Ad : Option Addr) (cd : Nat) (D : List (Bool × SqS)) (is : List Nat) (F : Nat → Prop) (m : Nat), i + k = l.length ∧ iv = .int .i64 i ∧ dv = .slice Ad D.length cd ∧ DoneAt (AtWr b1) 3 (.slice Ad D.length cd) D.length (is.map natV) w0 (sqW D) wr F ∧ DoneSq l ks is D ∧ (D.length ≤ i ∧ m ≤ 9000 * i) ∧ (sqW D).Ok m)
    case atStart => exact ⟨0, none, 0, [], [], F1, 0, by omega, rfl, rfl, D4.out, DoneSq.nil l ks, ⟨by simp, by omega⟩, ok_wr_new⟩
    case round =>
      clear O2 O3 D4 K3
      obtain ⟨i, Ad, cd, D, is, F, m, hik, rfl, rfl, hown, hsq, ⟨hDi, hm⟩, hok⟩ := hrel
      have O := hid (And.intro hown (And.intro hsq hok))
      have hl100 := HL.out.1
      by_cases hlt : i < l.length
      · have h9 : decide (i < l.length) = true := decide_eq_true hlt
        have e1 : decide ((i : Int) < (l.length : Int)) = true := by simp; omega
        obtain ⟨s, hz⟩ : ∃ s, l[i]? = some s := ⟨l[i], List.getElem?_eq_getElem hlt⟩
        obtain ⟨b4, o4, lv, v0, v1, v2, v3, m0, m1, m2, m3, l0, l1, l2, l3, rfl, hb4, hs, hcell⟩ := square_at X.out.1 hz
        obtain ⟨A1, c1, rfl, _⟩ := hs.nl.1.form
        obtain ⟨A2, c2, rfl, _⟩ := hs.n0.1.form
        obtain ⟨A3, c3, rfl, _⟩ := hs.n1.1.form
        obtain ⟨A4, c4, rfl, _⟩ := hs.n2.1.form
        obtain ⟨A5, c5, rfl, _⟩ := hs.n3.1.form
        obtain ⟨⟨r0, r1⟩, ⟨r2, r3, r4, r5⟩, ⟨r6, r7, r8⟩, r9, r10, r11, r12⟩ := hcell wr hown.c.bel
        have k0 : (0 : Int) ≤ (i : Int) := by omega
        have k1 : (i : Int) < (l.length : Int) := by omega
        have HI := hid (And.intro hik (And.intro hlt hz))
        have SL := hid (And.intro hs hcell)
        obtain ⟨key, hkey⟩ : ∃ q, q = keyAt ks i := ⟨_, rfl⟩
        have hkc : (i < ks.length ∧ decide (i < ks.length) = true ∧ decide ((i : Int) < (ks.length : Int)) = true ∧ ks[i]? = some key) ∨ (decide (i < ks.length) = false ∧ decide ((i : Int) < (ks.length : Int)) = false ∧ key = false) := by
          by_cases h : i < ks.length
          · refine .inl ⟨h, decide_eq_true h, by simp; omega, ?_⟩
            rw [hkey, keyAt, decide_eq_true h, List.getD_eq_getElem?_getD, List.getElem?_eq_getElem h]; rfl
          · refine .inr ⟨decide_eq_false h, by simp; omega, ?_⟩
            rw [hkey, keyAt, decide_eq_false h]; rfl
        have KEY := hid hkey
        clear hown hsq hok hz hb4 hs hcell hik hlt hkey
        go_upto_region 10 with fail
        go_cut [10] from 38 to 78 (fun kv W => kv = .bool key ∧ W = wr)
        case first =>
          rcases hkc with ⟨hk, g1, g2, hkz⟩ | ⟨g1, g2, rfl⟩
          · obtain ⟨b5, o5, cs0, rfl, hb5, _, rfl, hc5⟩ := Els.at_ Y.out hkz
            have q5 := (O.out.1.c.bel.cell (p := ⟨b5, o5 + i, none⟩) hb5).trans (show w0.cell? ⟨b5, o5 + i, none⟩ = some (.bool key) by simpa using hc5 0 _ rfl)
            have j1 : (i : Int) < (ks.length : Int) := by omega
            clear hkz hb5 hc5
            go_wp2_with fail
            go_meet
            exact ⟨rfl, rfl⟩
          · go_wp2_with fail
            go_meet
            exact ⟨rfl, rfl⟩
        case rest =>
         obtain ⟨rfl, rfl⟩ := hcut
         clear hkc
         by_cases hv : askNo key s = 0
         · have hr := right_of hv
           have HB := hid (fun W F m (hW : DoneAt (AtWr b1) 3 (.slice Ad D.length cd) D.length (is.map natV) w0 (sqW D) W F) (h1 : (sqW D).Ok m) h2 => wdone b1 SL.out.1 hv hW h1 h2)
           have HO := hid (wdone_ok hv SL.out.1.four b1 O.out.2.2)
           obtain ⟨x0, x1, x2, x3, lu, u0, u1, u2, u3, hpt, hsm⟩ := parts_same SL.out.1 hr
           have HPT := hid hpt
           have HSM := hid hsm
           have HR := hid hr
           unfold sqV at HB HPT HSM
           unfold TellE sqV at HB
           generalize partsS s = q at *
           clear hv hr hpt hsm
           go_wp2_with fail
           refine (HB.out _ F m O.out.1 O.out.2.2 (by omega)).mono ?_
           rintro e w6 ⟨F6, hD6, B0, B1, B2, B3, B4, n0, n1, n2, n3, n4, p0, p1, p2, p3, j0, j1, j2, j3, rfl, ht⟩
           have hal : Below w6.heap.size w6 (w6.alloc (.cells #[.int .i64 q.kind, .int .i64 q.mode, .int .i64 p0, .int .i64 p1, .int .i64 p2, .int .i64 p3, .int .i64 q.x, .int .i64 q.y, .slice B0 n0 n0, .slice B1 n1 n1, .slice B2 n2 n2, .slice B3 n3 n3, .slice B4 n4 n4] 60)) := (Below.refl _ _).alloc (Nat.le_refl _) _
           have Q7 := hid (And.intro (hD6.below (wr_coder b1) hal) (And.intro (show SqBlk (w6.alloc (.cells #[.int .i64 q.kind, .int .i64 q.mode, .int .i64 p0, .int .i64 p1, .int .i64 p2, .int .i64 p3, .int .i64 q.x, .int .i64 q.y, .slice B0 n0 n0, .slice B1 n1 n1, .slice B2 n2 n2, .slice B3 n3 n3, .slice B4 n4 n4] 60)) w6.heap.size 60 q.kind q.mode [p0, p1, p2, p3] q.x q.y (.slice B0 n0 n0) [.slice B1 n1 n1, .slice B2 n2 n2, .slice B3 n3 n3, .slice B4 n4 n4] from SqBlk.of (Blk.new _ _ _) rfl) (ht.below hal)))
           clear hD6 ht hal r0 r1 r2 r3 r4 r5 r6 r7 r8 r9 r10 r11 r12
           go_upto_region 13 with fail
           generalize w6.alloc (.cells #[.int .i64 q.kind, .int .i64 q.mode, .int .i64 p0, .int .i64 p1, .int .i64 p2, .int .i64 p3, .int .i64 q.x, .int .i64 q.y, .slice B0 n0 n0, .slice B1 n1 n1, .slice B2 n2 n2, .slice B3 n3 n3, .slice B4 n4 n4] 60) = w7 at *
           have hcells : ∀ W, SqBlk W w6.heap.size 60 q.kind q.mode [p0, p1, p2, p3] q.x q.y (.slice B0 n0 n0) [.slice B1 n1 n1, .slice B2 n2 n2, .slice B3 n3 n3, .slice B4 n4 n4] → Below w0.heap.size w0 W → (W.cell? ⟨w6.heap.size, 0, none⟩ = some (.int .i64 q.kind) ∧ W.cell? ⟨w6.heap.size, 1, none⟩ = some (.int .i64 q.mode) ∧ W.cell? ⟨w6.heap.size, 2, none⟩ = some (.int .i64 p0) ∧ W.cell? ⟨w6.heap.size, 3, none⟩ = some (.int .i64 p1) ∧ W.cell? ⟨w6.heap.size, 4, none⟩ = some (.int .i64 p2) ∧ W.cell? ⟨w6.heap.size, 5, none⟩ = some (.int .i64 p3) ∧ W.cell? ⟨w6.heap.size, 6, none⟩ = some (.int .i64 q.x) ∧ W.cell? ⟨w6.heap.size, 7, none⟩ = some (.int .i64 q.y) ∧ W.cell? ⟨w6.heap.size, 8, none⟩ = some (.slice B0 n0 n0) ∧ W.cell? ⟨w6.heap.size, 9, none⟩ = some (.slice B1 n1 n1) ∧ W.cell? ⟨w6.heap.size, 10, none⟩ = some (.slice B2 n2 n2) ∧ W.cell? ⟨w6.heap.size, 11, none⟩ = some (.slice B3 n3 n3) ∧ W.cell? ⟨w6.heap.size, 12, none⟩ = some (.slice B4 n4 n4)) ∧ W.cell? ⟨b4, o4 + i * 13, none⟩ = some (.int .i64 s.kind) ∧ W.cell? ⟨b4, o4 + i * 13 + 1, none⟩ = some (.int .i64 s.mode) ∧ W.cell? ⟨b4, o4 + i * 13 + 2, none⟩ = some (.int .i64 m0) ∧ W.cell? ⟨b4, o4 + i * 13 + 3, none⟩ = some (.int .i64 m1) ∧ W.cell? ⟨b4, o4 + i * 13 + 4, none⟩ = some (.int .i64 m2) ∧ W.cell? ⟨b4, o4 + i * 13 + 5, none⟩ = some (.int .i64 m3) ∧ W.cell? ⟨b4, o4 + i * 13 + 6, none⟩ = some (.int .i64 s.x) ∧ W.cell? ⟨b4, o4 + i * 13 + 7, none⟩ = some (.int .i64 s.y) ∧ W.cell? ⟨b4, o4 + i * 13 + 8, none⟩ = some (.slice A1 s.large.length c1) ∧ W.cell? ⟨b4, o4 + i * 13 + 9, none⟩ = some (.slice A2 l0.length c2) ∧ W.cell? ⟨b4, o4 + i * 13 + 10, none⟩ = some (.slice A3 l1.length c3) ∧ W.cell? ⟨b4, o4 + i * 13 + 11, none⟩ = some (.slice A4 l2.length c4) ∧ W.cell? ⟨b4, o4 + i * 13 + 12, none⟩ = some (.slice A5 l3.length c5) := by
             intro W h hb
             obtain ⟨⟨c0, c1⟩, ⟨c2, c3, c4, c5⟩, ⟨c6, c7, c8⟩, c9, c10, c11, c12⟩ := h.all4
             obtain ⟨⟨r0, r1⟩, ⟨r2, r3, r4, r5⟩, ⟨r6, r7, r8⟩, r9, r10, r11, r12⟩ := SL.out.2 W hb
             exact ⟨⟨c0, c1, c2, c3, c4, c5, c6, c7, c8, c9, c10, c11, c12⟩, r0, r1, r2, r3, r4, r5, r6, r7, r8, r9, r10, r11, r12⟩
           have HCL := hid hcells
           have K7 := hid (hcells _ Q7.out.2.1 Q7.out.1.c.bel)
           have hd := (Below.refl w7.heap.size w7).drew
           have Q7d := hid (And.intro (Q7.out.1.below (wr_coder b1) hd) (And.intro (Q7.out.2.1.below hd) (Q7.out.2.2.below hd)))
           have K7d := hid (hcells _ Q7d.out.2.1 Q7d.out.1.c.bel)
           clear hcells hd
           go_region_held_law (fun W => (W.cell? ⟨w6.heap.size, 0, none⟩ = some (.int .i64 q.kind) ∧ W.cell? ⟨w6.heap.size, 1, none⟩ = some (.int .i64 q.mode) ∧ W.cell? ⟨w6.heap.size, 2, none⟩ = some (.int .i64 p0) ∧ W.cell? ⟨w6.heap.size, 3, none⟩ = some (.int .i64 p1) ∧ W.cell? ⟨w6.heap.size, 4, none⟩ = some (.int .i64 p2) ∧ W.cell? ⟨w6.heap.size, 5, none⟩ = some (.int .i64 p3) ∧ W.cell? ⟨w6.heap.size, 6, none⟩ = some (.int .i64 q.x) ∧ W.cell? ⟨w6.heap.size, 7, none⟩ = some (.int .i64 q.y) ∧ W.cell? ⟨w6.heap.size, 8, none⟩ = some (.slice B0 n0 n0) ∧ W.cell? ⟨w6.heap.size, 9, none⟩ = some (.slice B1 n1 n1) ∧ W.cell? ⟨w6.heap.size, 10, none⟩ = some (.slice B2 n2 n2) ∧ W.cell? ⟨w6.heap.size, 11, none⟩ = some (.slice B3 n3 n3) ∧ W.cell? ⟨w6.heap.size, 12, none⟩ = some (.slice B4 n4 n4)) ∧ W.cell? ⟨b4, o4 + i * 13, none⟩ = some (.int .i64 s.kind) ∧ W.cell? ⟨b4, o4 + i * 13 + 1, none⟩ = some (.int .i64 s.mode) ∧ W.cell? ⟨b4, o4 + i * 13 + 2, none⟩ = some (.int .i64 m0) ∧ W.cell? ⟨b4, o4 + i * 13 + 3, none⟩ = some (.int .i64 m1) ∧ W.cell? ⟨b4, o4 + i * 13 + 4, none⟩ = some (.int .i64 m2) ∧ W.cell? ⟨b4, o4 + i * 13 + 5, none⟩ = some (.int .i64 m3) ∧ W.cell? ⟨b4, o4 + i * 13 + 6, none⟩ = some (.int .i64 s.x) ∧ W.cell? ⟨b4, o4 + i * 13 + 7, none⟩ = some (.int .i64 s.y) ∧ W.cell? ⟨b4, o4 + i * 13 + 8, none⟩ = some (.slice A1 s.large.length c1) ∧ W.cell? ⟨b4, o4 + i * 13 + 9, none⟩ = some (.slice A2 l0.length c2) ∧ W.cell? ⟨b4, o4 + i * 13 + 10, none⟩ = some (.slice A3 l1.length c3) ∧ W.cell? ⟨b4, o4 + i * 13 + 11, none⟩ = some (.slice A4 l2.length c4) ∧ W.cell? ⟨b4, o4 + i * 13 + 12, none⟩ = some (.slice A5 l3.length c5))
             (with_reducible first | exact K9.out | exact K8.out | exact K7d.out | exact K7.out)
             (first
               | (go_at_call 20
                  have hN := Q8.out
                  refine (HSM.out _ p0 p1 p2 p3 _ _ _ _ _ j0 j1 j2 j3 hN.1.c.bel hN.2.2).mono ?_
                  rintro e w9 ⟨rfl, hb⟩
                  have Q9 := hid (And.intro (hN.1.below (wr_coder b1) hb) (And.intro (hN.2.1.below hb) (hN.2.2.below hb)))
                  have K9 := hid (HCL.out _ Q9.out.2.1 Q9.out.1.c.bel)
                  clear hN hb)
               | (go_at_call 21
                  have hN := Q7d.out
                  refine (HPT.out _).mono ?_
                  rintro e w8 ⟨rfl, hb⟩
                  have Q8 := hid (And.intro (hN.1.below (wr_coder b1) hb) (And.intro (hN.2.1.below hb) (hN.2.2.below hb)))
                  have K8 := hid (HCL.out _ Q8.out.2.1 Q8.out.1.c.bel)
                  clear hN hb)
               | fail)
           have hal9 : Below w9.heap.size w9 (w9.alloc (.cells #[.int .i64 i] 3)) := (Below.refl _ _).alloc (Nat.le_refl _) _
           have T10 := hid (Q9.out.1.below (wr_coder b1) hal9)
           have N := hid (from_one (Blk.new w9 3 #[.int .i64 i]))
           have HSZ := hid T10.out.c.bel.size
           clear hal9 K7 K7d K8 K9 HPT HSM HCL HB
           go_wp2_with (at_builtin; refine wpList_append_form _ rfl (.tmp 75) (.tmp 77) _ rfl w0.heap.size 3 i0 (.int .i64 0) 1 8 Tryd.underlying57 IP.out.1 IP.out.2.1 IP.out.2.2.1 IP.out.2.2.2 rfl (by omega) (.slice Ad D.length cd) D.length (is.map natV) rfl (by exact T10.out.own) (.slice (some ⟨w9.heap.size, 0, none⟩) 1 1) 1 [.int .i64 i] rfl (by exact N.out) (by simp [Value.oneCell']) (.inr (by omega)) (by unfold maxLen; omega) (by omega) (by exact HSZ.out) (D.length + 1) (is.map natV ++ [.int .i64 i]) rfl rfl ?_; intro g cap w11 hown hgrow hat hlt11)
           have T11 := hid (And.intro (T10.out.grown (wr_coder b1) hgrow hown hat) (O.out.2.1.snoc HI.out.2.2 (by rw [← KEY.out]; exact HR.out)))
           clear hown hgrow hat hlt11
           obtain ⟨m6, hm6, hok6⟩ := HO.out
           rw [KEY.out] at hok6
           go_roundg (gk - 1)
           case measure => have := HI.out.1; have := HI.out.2.1; omega
           case rel => exact ⟨i + 1, some ⟨g, 0, none⟩, cap, D ++ [(keyAt ks i, s)], is ++ [i], F6, m6, by have := HI.out.1; have := HI.out.2.1; omega, by go_num, by rw [List.length_append]; rfl, by rw [List.length_append, List.map_append, ← KEY.out]; exact T11.out.1, T11.out.2, ⟨by rw [List.length_append]; show D.length + 1 ≤ i + 1; omega, by omega⟩, hok6⟩
         · have HB := hid (fun W (hb : Below w0.heap.size w0 W) => scode_bad b1 _ (reads_wr b1) key _ s m0 m1 m2 m3 _ _ _ _ _ l0 l1 l2 l3 W (SL.out.1.below hb).arg hv)
           have hcv : codeV (askNo key s) = .iface 33 (.int .i64 (askNo key s)) := by unfold codeV; rw [if_neg hv]
           rw [hcv] at HB
           unfold sqV at HB
           clear hv hcv
           go_wp2_with fail
           refine (HB.out _ (by exact O.out.1.c.bel)).mono ?_
           rintro e w6 ⟨rfl, hb6⟩
           have T6 := hid (O.out.1.below (wr_coder b1) hb6)
           clear hb6
           unfold zeroV sqV
           go_wp2_with fail
           go_roundg (gk - 1)
           case measure => have := HI.out.1; have := HI.out.2.1; omega
           case rel => exact ⟨i + 1, Ad, cd, D, is, F, m, by have := HI.out.1; have := HI.out.2.1; omega, by go_num, rfl, by exact T6.out.below (wr_coder b1) ((Below.refl _ _).alloc (Nat.le_refl _) _), O.out.2.1, ⟨by omega, by omega⟩, O.out.2.2⟩
      · obtain rfl : i = l.length := by omega
        have e1 : decide ((l.length : Int) < (l.length : Int)) = false := by simp
        have hl9 : decide (l.length < l.length) = false := decide_eq_false (by omega)
        clear hown hsq hok hik hlt
        go_wp2_with fail
        refine (wr_endA b1 _ F (sqW D) m (by exact O.out.1.c.a) O.out.2.2 (by omega)).mono ?_
        rintro e w12 ⟨g1, p1, rfl, o1, b1'⟩
        have T7 := hid (O.out.1.below (wr_coder b1) b1')
        have O1 := hid (From.of_own o1)
        have hbl : (sqW D).e.bytes.length ≤ 140737488355328 := by
          have h1 := O.out.2.2.e.len
          obtain ⟨z, hz⟩ := trim_zeros ((sqW D).e.out ++ four (sqW D).e.low)
          have h2 := congrArg List.length hz
          simp only [List.length_append, List.length_replicate, four_len] at h2
          have h3 : (sqW D).e.bytes.length = (trim ((sqW D).e.out ++ four (sqW D).e.low)).length := rfl
          omega
        have HBL := hid hbl
        clear o1 b1' hbl
        go_wp2_with fail
        refine (new_rd _ (sqW D).e.bytes _ O1.out HBL.out).mono ?_
        rintro e w13 ⟨db, G, rfl, a4, f4, b4⟩
        have T8 := hid (show DoneAt (AtRd db) 3 (.slice Ad D.length cd) D.length (is.map natV) w0 (Rd.new (sqW D).e.bytes) w13 G from by
          have h := T7.out.below (wr_coder b1) b4
          refine ⟨⟨a4, fun k hk => Nat.le_trans T7.out.c.bel.size (f4 k hk), h.c.bel⟩, h.own, fun k hk hG => ?_⟩
          have := (T7.out.own.lt k hk).2
          have := f4 k hG
          omega)
        have SQ := hid O.out.2.1
        have hD100 : D.length ≤ 100 := by omega
        clear a4 f4 b4 T7 O
        go_wp2_with fail
        go_loopg [14] D.length (fun k iv wr => ∃ (n : Nat) (t : Rd) (G : Nat → Prop) (q : Nat), n + k = D.length ∧ iv = .int .i64 n ∧ DoneAt (AtRd db) 3 (.slice Ad D.length cd) D.length (is.map natV) w0 t wr G ∧ Tr (sqW D).e (sqW (D.take n)) t ∧ q ≤ 4 + 9000 * n ∧ t.Ok q)
        case atStart => exact ⟨0, _, G, 4, by omega, rfl, T8.out, back_trS D, by omega, ok_rd_new _⟩
        case round =>
          clear T8 O1 HBL
          obtain ⟨n, t, G, mq, hn, rfl, hT, htr, hq, hok⟩ := hrel
          by_cases hlt : n < D.length
          · have h9 : decide (n < D.length) = true := decide_eq_true hlt
            have e2 : decide ((n : Int) < (D.length : Int)) = true := by simp; omega
            obtain ⟨⟨key, s⟩, hz⟩ : ∃ z, D[n]? = some z := ⟨D[n], List.getElem?_eq_getElem hlt⟩
            obtain ⟨hr, i, hi, hls, hkey⟩ := SQ.out.2 n key s hz
            obtain ⟨b4, o4, lv, v0, v1, v2, v3, m0, m1, m2, m3, l0, l1, l2, l3, rfl, hb4, hs, hcell⟩ := square_at X.out.1 hls
            obtain ⟨A1, c1, rfl, _⟩ := hs.nl.1.form
            obtain ⟨A2, c2, rfl, _⟩ := hs.n0.1.form
            obtain ⟨A3, c3, rfl, _⟩ := hs.n1.1.form
            obtain ⟨A4, c4, rfl, _⟩ := hs.n2.1.form
            obtain ⟨A5, c5, rfl, _⟩ := hs.n3.1.form
            obtain ⟨tg, rfl⟩ : ∃ tg, Ad = some ⟨tg, 0, none⟩ := by
              rcases hT.own.2 with ⟨_, h⟩ | ⟨g', c', cur, h, _⟩
              · omega
              · injection h with h1 _ _
                exact ⟨g', h1⟩
            have hdone : ∀ (σ : Type) (At : World → (Nat → Prop) → σ → Prop) (t : σ) W G, DoneAt At 3 (.slice (some ⟨tg, 0, none⟩) D.length cd) D.length (is.map natV) w0 t W G → W.cell? ⟨tg, n, none⟩ = some (.int .i64 i) := by
              intro σ At t W G h
              rw [h.own.cellAt n (by omega), List.getElem?_map, hi]
              rfl
            have HDN := hid hdone
            have f0 := hdone _ _ _ _ _ hT
            have hil : i < l.length := (List.getElem?_eq_some_iff.1 hls).1
            have k0 : (0 : Int) ≤ (n : Int) := by omega
            have k1 : (n : Int) < (D.length : Int) := by omega
            have k2 : (0 : Int) ≤ (i : Int) := by omega
            have k3 : (i : Int) < (l.length : Int) := by omega
            have hkc : (i < ks.length ∧ decide (i < ks.length) = true ∧ decide ((i : Int) < (ks.length : Int)) = true ∧ ks[i]? = some key) ∨ (decide (i < ks.length) = false ∧ decide ((i : Int) < (ks.length : Int)) = false ∧ key = false) := by
              by_cases h : i < ks.length
              · refine .inl ⟨h, decide_eq_true h, by simp; omega, ?_⟩
                rw [hkey, keyAt, decide_eq_true h, List.getD_eq_getElem?_getD, List.getElem?_eq_getElem h]; rfl
              · refine .inr ⟨decide_eq_false h, by simp; omega, ?_⟩
                rw [hkey, keyAt, decide_eq_false h]; rfl
            have NX := hid (And.intro htr (And.intro hok (And.intro hn hz)))
            have SL := hid (And.intro hs hcell)
            have T := hid hT
            have HR := hid hr
            have jb := K0.out.2.below T.out.c.bel K0.out.2.lt
            obtain ⟨⟨z0, z1⟩, ⟨z2, z3, z4, z5⟩, ⟨z6, z7, z8⟩, z9, z10, z11, z12⟩ := (SqBlk.of jb rfl).all4
            have JQ := hid (And.intro z0 (And.intro z1 (And.intro z2 (And.intro z3 (And.intro z4 (And.intro z5 (And.intro z6 (And.intro z7 (And.intro z8 (And.intro z9 (And.intro z10 (And.intro z11 z12))))))))))))
            clear hT htr hok hn hz hs hcell hdone hi hls hil hb4 hkey hr hlt jb z0 z1 z2 z3 z4 z5 z6 z7 z8 z9 z10 z11 z12
            go_upto_region 22 with fail
            go_cut [15] from 84 to 129 (fun kv W => kv = .bool key ∧ W = wr)
            case first =>
              rcases hkc with ⟨hk, g1, g2, hkz⟩ | ⟨g1, g2, rfl⟩
              · obtain ⟨b5, o5, cs0, rfl, hb5, _, rfl, hc5⟩ := Els.at_ Y.out hkz
                have q5 := (T.out.c.bel.cell (p := ⟨b5, o5 + i, none⟩) hb5).trans (show w0.cell? ⟨b5, o5 + i, none⟩ = some (.bool key) by simpa using hc5 0 _ rfl)
                have j1 : (i : Int) < (ks.length : Int) := by omega
                clear hkz hb5 hc5
                go_wp2_with fail
                go_meet
                exact ⟨rfl, rfl⟩
              · go_wp2_with fail
                go_meet
                exact ⟨rfl, rfl⟩
            case rest =>
             obtain ⟨rfl, rfl⟩ := hcut
             clear hkc f0
             obtain ⟨z0, z1, z2, z3, z4, z5, z6, z7, z8, z9, z10, z11, z12⟩ := JQ.out
             have HCP := hid (fun W (hb : Below w0.heap.size w0 W) => copied_any j.kind j.mode jm0 jm1 jm2 jm3 j.x j.y (.slice JA j.large.length jc) (.slice JA0 jl0.length jc0) (.slice JA1 jl1.length jc1) (.slice JA2 jl2.length jc2) (.slice JA3 jl3.length jc3) j.large jl0 jl1 jl2 jl3 W ⟨(J.out.below hb).nl.1, (J.out.below hb).n0.1, (J.out.below hb).n1.1, (J.out.below hb).n2.1, (J.out.below hb).n3.1⟩ (by
               have h := (sum5 (n0 := j.large.length) (n1 := jl0.length) (n2 := jl1.length) (n3 := jl2.length) (n4 := jl3.length)).2 (by rw [← J.out.weigh]; exact HJ.out)
               omega))
             have HRD := hid (fun W v0 v1 v2 v3 v4 (hn : SqArg W (sqV j.kind j.mode jm0 jm1 jm2 jm3 j.x j.y v0 v1 v2 v3 v4) j jm0 jm1 jm2 jm3 v0 v1 v2 v3 v4 jl0 jl1 jl2 jl3) (hW : DoneAt (AtRd db) 3 (.slice (some ⟨tg, 0, none⟩) D.length cd) D.length (is.map natV) w0 t W G) (h1 : t.Ok mq) h2 => rdone db NX.out.2.2.2 HR.out SL.out.1.four NX.out.1 hn hW h1 h2)
             obtain ⟨x0, x1, x2, x3, lu, u0, u1, u2, u3, hpt, hsm⟩ := parts_same SL.out.1 HR.out
             have HPT := hid hpt
             have HSM := hid hsm
             unfold sqV at HCP HPT HSM
             unfold TellE at HRD
             generalize partsS s = q at *
             clear hpt hsm
             go_wp2_with fail
             refine (HCP.out _ (by exact T.out.c.bel)).mono ?_
             rintro e w14 ⟨y0, y1, y2, y3, y4, rfl, hb14, g0, g1, g2, g3, g4⟩
             have T14 := hid (T.out.below (rd_coder db) hb14)
             have AR := hid (show SqArg w14 (sqV j.kind j.mode jm0 jm1 jm2 jm3 j.x j.y y0 y1 y2 y3 y4) j jm0 jm1 jm2 jm3 y0 y1 y2 y3 y4 jl0 jl1 jl2 jl3 from ⟨⟨rfl, J.out.em⟩, J.out.es, g0.nums, g1.nums, g2.nums, g3.nums, g4.nums⟩)
             clear hb14 g0 g1 g2 g3 g4 z0 z1 z2 z3 z4 z5 z6 z7 z8 z9 z10 z11 z12
             go_wp2_with fail
             refine (HRD.out _ _ _ _ _ _ AR.out T14.out NX.out.2.1 (by omega)).mono ?_
             unfold sqV
             rintro e w15 ⟨G6, t6, m6, hD6, htr6, hok6, B0, B1, B2, B3, B4, n0, n1, n2, n3, n4, p0, p1, p2, p3, j0, j1, j2, j3, rfl, ht⟩
             have hal : Below w15.heap.size w15 (w15.alloc (.cells #[.int .i64 q.kind, .int .i64 q.mode, .int .i64 p0, .int .i64 p1, .int .i64 p2, .int .i64 p3, .int .i64 q.x, .int .i64 q.y, .slice B0 n0 n0, .slice B1 n1 n1, .slice B2 n2 n2, .slice B3 n3 n3, .slice B4 n4 n4] 60)) := (Below.refl _ _).alloc (Nat.le_refl _) _
             have Q7 := hid (And.intro (hD6.below (rd_coder db) hal) (And.intro (show SqBlk (w15.alloc (.cells #[.int .i64 q.kind, .int .i64 q.mode, .int .i64 p0, .int .i64 p1, .int .i64 p2, .int .i64 p3, .int .i64 q.x, .int .i64 q.y, .slice B0 n0 n0, .slice B1 n1 n1, .slice B2 n2 n2, .slice B3 n3 n3, .slice B4 n4 n4] 60)) w15.heap.size 60 q.kind q.mode [p0, p1, p2, p3] q.x q.y (.slice B0 n0 n0) [.slice B1 n1 n1, .slice B2 n2 n2, .slice B3 n3 n3, .slice B4 n4 n4] from SqBlk.of (Blk.new _ _ _) rfl) (ht.below hal)))
             have NY := hid (And.intro htr6 hok6)
             clear hD6 ht hal htr6 hok6
             go_upto_region 24 with fail
             generalize w15.alloc (.cells #[.int .i64 q.kind, .int .i64 q.mode, .int .i64 p0, .int .i64 p1, .int .i64 p2, .int .i64 p3, .int .i64 q.x, .int .i64 q.y, .slice B0 n0 n0, .slice B1 n1 n1, .slice B2 n2 n2, .slice B3 n3 n3, .slice B4 n4 n4] 60) = w7 at *
             have hcells : ∀ W, SqBlk W w15.heap.size 60 q.kind q.mode [p0, p1, p2, p3] q.x q.y (.slice B0 n0 n0) [.slice B1 n1 n1, .slice B2 n2 n2, .slice B3 n3 n3, .slice B4 n4 n4] → DoneAt (AtRd db) 3 (.slice (some ⟨tg, 0, none⟩) D.length cd) D.length (is.map natV) w0 t6 W G6 → (W.cell? ⟨w15.heap.size, 0, none⟩ = some (.int .i64 q.kind) ∧ W.cell? ⟨w15.heap.size, 1, none⟩ = some (.int .i64 q.mode) ∧ W.cell? ⟨w15.heap.size, 2, none⟩ = some (.int .i64 p0) ∧ W.cell? ⟨w15.heap.size, 3, none⟩ = some (.int .i64 p1) ∧ W.cell? ⟨w15.heap.size, 4, none⟩ = some (.int .i64 p2) ∧ W.cell? ⟨w15.heap.size, 5, none⟩ = some (.int .i64 p3) ∧ W.cell? ⟨w15.heap.size, 6, none⟩ = some (.int .i64 q.x) ∧ W.cell? ⟨w15.heap.size, 7, none⟩ = some (.int .i64 q.y) ∧ W.cell? ⟨w15.heap.size, 8, none⟩ = some (.slice B0 n0 n0) ∧ W.cell? ⟨w15.heap.size, 9, none⟩ = some (.slice B1 n1 n1) ∧ W.cell? ⟨w15.heap.size, 10, none⟩ = some (.slice B2 n2 n2) ∧ W.cell? ⟨w15.heap.size, 11, none⟩ = some (.slice B3 n3 n3) ∧ W.cell? ⟨w15.heap.size, 12, none⟩ = some (.slice B4 n4 n4)) ∧ (W.cell? ⟨b4, o4 + i * 13, none⟩ = some (.int .i64 s.kind) ∧ W.cell? ⟨b4, o4 + i * 13 + 1, none⟩ = some (.int .i64 s.mode) ∧ W.cell? ⟨b4, o4 + i * 13 + 2, none⟩ = some (.int .i64 m0) ∧ W.cell? ⟨b4, o4 + i * 13 + 3, none⟩ = some (.int .i64 m1) ∧ W.cell? ⟨b4, o4 + i * 13 + 4, none⟩ = some (.int .i64 m2) ∧ W.cell? ⟨b4, o4 + i * 13 + 5, none⟩ = some (.int .i64 m3) ∧ W.cell? ⟨b4, o4 + i * 13 + 6, none⟩ = some (.int .i64 s.x) ∧ W.cell? ⟨b4, o4 + i * 13 + 7, none⟩ = some (.int .i64 s.y) ∧ W.cell? ⟨b4, o4 + i * 13 + 8, none⟩ = some (.slice A1 s.large.length c1) ∧ W.cell? ⟨b4, o4 + i * 13 + 9, none⟩ = some (.slice A2 l0.length c2) ∧ W.cell? ⟨b4, o4 + i * 13 + 10, none⟩ = some (.slice A3 l1.length c3) ∧ W.cell? ⟨b4, o4 + i * 13 + 11, none⟩ = some (.slice A4 l2.length c4) ∧ W.cell? ⟨b4, o4 + i * 13 + 12, none⟩ = some (.slice A5 l3.length c5)) ∧ W.cell? ⟨tg, n, none⟩ = some (.int .i64 i) := by
               intro W h hb
               obtain ⟨⟨c0, c1⟩, ⟨c2, c3, c4, c5⟩, ⟨c6, c7, c8⟩, c9, c10, c11, c12⟩ := h.all4
               obtain ⟨⟨r0, r1⟩, ⟨r2, r3, r4, r5⟩, ⟨r6, r7, r8⟩, r9, r10, r11, r12⟩ := SL.out.2 W hb.c.bel
               exact ⟨⟨c0, c1, c2, c3, c4, c5, c6, c7, c8, c9, c10, c11, c12⟩, ⟨r0, r1, r2, r3, r4, r5, r6, r7, r8, r9, r10, r11, r12⟩, HDN.out _ _ _ _ _ hb⟩
             have HCL := hid hcells
             have K7 := hid (hcells _ Q7.out.2.1 Q7.out.1)
             have hd := (Below.refl w7.heap.size w7).drew
             have Q7d := hid (And.intro (Q7.out.1.below (rd_coder db) hd) (And.intro (Q7.out.2.1.below hd) (Q7.out.2.2.below hd)))
             have K7d := hid (hcells _ Q7d.out.2.1 Q7d.out.1)
             clear hcells hd
             go_wp2_with fail
             go_region_held_law (fun W => (W.cell? ⟨w15.heap.size, 0, none⟩ = some (.int .i64 q.kind) ∧ W.cell? ⟨w15.heap.size, 1, none⟩ = some (.int .i64 q.mode) ∧ W.cell? ⟨w15.heap.size, 2, none⟩ = some (.int .i64 p0) ∧ W.cell? ⟨w15.heap.size, 3, none⟩ = some (.int .i64 p1) ∧ W.cell? ⟨w15.heap.size, 4, none⟩ = some (.int .i64 p2) ∧ W.cell? ⟨w15.heap.size, 5, none⟩ = some (.int .i64 p3) ∧ W.cell? ⟨w15.heap.size, 6, none⟩ = some (.int .i64 q.x) ∧ W.cell? ⟨w15.heap.size, 7, none⟩ = some (.int .i64 q.y) ∧ W.cell? ⟨w15.heap.size, 8, none⟩ = some (.slice B0 n0 n0) ∧ W.cell? ⟨w15.heap.size, 9, none⟩ = some (.slice B1 n1 n1) ∧ W.cell? ⟨w15.heap.size, 10, none⟩ = some (.slice B2 n2 n2) ∧ W.cell? ⟨w15.heap.size, 11, none⟩ = some (.slice B3 n3 n3) ∧ W.cell? ⟨w15.heap.size, 12, none⟩ = some (.slice B4 n4 n4)) ∧ (W.cell? ⟨b4, o4 + i * 13, none⟩ = some (.int .i64 s.kind) ∧ W.cell? ⟨b4, o4 + i * 13 + 1, none⟩ = some (.int .i64 s.mode) ∧ W.cell? ⟨b4, o4 + i * 13 + 2, none⟩ = some (.int .i64 m0) ∧ W.cell? ⟨b4, o4 + i * 13 + 3, none⟩ = some (.int .i64 m1) ∧ W.cell? ⟨b4, o4 + i * 13 + 4, none⟩ = some (.int .i64 m2) ∧ W.cell? ⟨b4, o4 + i * 13 + 5, none⟩ = some (.int .i64 m3) ∧ W.cell? ⟨b4, o4 + i * 13 + 6, none⟩ = some (.int .i64 s.x) ∧ W.cell? ⟨b4, o4 + i * 13 + 7, none⟩ = some (.int .i64 s.y) ∧ W.cell? ⟨b4, o4 + i * 13 + 8, none⟩ = some (.slice A1 s.large.length c1) ∧ W.cell? ⟨b4, o4 + i * 13 + 9, none⟩ = some (.slice A2 l0.length c2) ∧ W.cell? ⟨b4, o4 + i * 13 + 10, none⟩ = some (.slice A3 l1.length c3) ∧ W.cell? ⟨b4, o4 + i * 13 + 11, none⟩ = some (.slice A4 l2.length c4) ∧ W.cell? ⟨b4, o4 + i * 13 + 12, none⟩ = some (.slice A5 l3.length c5)) ∧ W.cell? ⟨tg, n, none⟩ = some (.int .i64 i))
               (with_reducible first | exact K9.out | exact K8.out | exact K7d.out | exact K7.out)
               (first
                 | (go_at_call 20
                    have hN := Q8.out
                    refine (HSM.out _ p0 p1 p2 p3 _ _ _ _ _ j0 j1 j2 j3 hN.1.c.bel hN.2.2).mono ?_
                    rintro e w9 ⟨rfl, hb⟩
                    have Q9 := hid (And.intro (hN.1.below (rd_coder db) hb) (And.intro (hN.2.1.below hb) (hN.2.2.below hb)))
                    have K9 := hid (HCL.out _ Q9.out.2.1 Q9.out.1)
                    clear hN hb)
                 | (go_at_call 21
                    have hN := Q7d.out
                    refine (HPT.out _).mono ?_
                    rintro e w8 ⟨rfl, hb⟩
                    have Q8 := hid (And.intro (hN.1.below (rd_coder db) hb) (And.intro (hN.2.1.below hb) (hN.2.2.below hb)))
                    have K8 := hid (HCL.out _ Q8.out.2.1 Q8.out.1)
                    clear hN hb)
                 | fail)
             go_wp2_with fail
             go_roundg (gk - 1)
             case measure => have := NX.out.2.2.1; omega
             case rel => exact ⟨n + 1, t6, G6, m6, by have := NX.out.2.2.1; omega, by go_num, Q9.out.1, NY.out.1, by have := NY.out.2.1; omega, NY.out.2.2⟩
          · obtain rfl : n = D.length := by omega
            have h9 : decide (D.length < D.length) = false := decide_eq_false (by omega)
            have e2 : decide ((D.length : Int) < (D.length : Int)) = false := by simp
            have T := hid hT
            clear hT htr hok hlt
            go_wp2_with fail
            refine (first20 _ (by exact HG.out.1.below T.out.c.bel HG.out.2)).mono ?_
            rintro e w9 ⟨rfl, hb9⟩
            have B9 := hid (K0.out.1.trans ((T.out.c.bel.trans (hb9.mono T.out.c.bel.size)).mono K0.out.1.size))
            clear hb9
            go_wp2_with fail
            go_ret
            exact ⟨rfl, B9.out⟩
end Go.Proofs.YtkkgpdejmcpcpaaDoor

/- SyntaxBack: the walk. -/
namespace Go.Proofs.YtkkgpdejmcpcpaaDoor
open Go.RowKit

theorem sback_walk (x y : Value) (l : List SqS) (ks : List Bool) (v : Value) (j : SqS) (w : World) (hx : Els w 13 (SquR w) x l) (hml : l.length ≤ maxLen) (hy : Els w 1 BoolR y ks) (hk : ks.length ≤ maxLen)
    (hv : ∃ (lv v0 v1 v2 v3 : Value) (m0 m1 m2 m3 : Int) (l0 l1 l2 l3 : List Int), v = sqV j.kind j.mode m0 m1 m2 m3 j.x j.y lv v0 v1 v2 v3 ∧ SqLies w j lv v0 v1 v2 v3 m0 m1 m2 m3 l0 l1 l2 l3) (hg : ErrT w) :
    Calls Tryd.prog 5 #[x, y, v] w fun e w' => e = .returned (.bool true) ∧ Below w.heap.size w w' := by
  obtain ⟨lv, v0, v1, v2, v3, m0, m1, m2, m3, l0, l1, l2, l3, rfl, hj⟩ := hv
  obtain ⟨JA, jc, rfl, _⟩ := hj.nl.1.form
  obtain ⟨JA0, jc0, rfl, _⟩ := hj.n0.1.form
  obtain ⟨JA1, jc1, rfl, _⟩ := hj.n1.1.form
  obtain ⟨JA2, jc2, rfl, _⟩ := hj.n2.1.form
  obtain ⟨JA3, jc3, rfl, _⟩ := hj.n3.1.form
  by_cases h : (l.length ≤ 100 ∧ ∀ s ∈ l, weighN s ≤ 20000) ∧ weighN j ≤ 20000
  · exact sback_good x y l ks j m0 m1 m2 m3 JA JA0 JA1 JA2 JA3 jc jc0 jc1 jc2 jc3 l0 l1 l2 l3 w hx hml hy hk hj hg h
  · exact sback_few x y l ks j m0 m1 m2 m3 JA JA0 JA1 JA2 JA3 jc jc0 jc1 jc2 jc3 l0 l1 l2 l3 w hx hml hy hk hj hg h
end Go.Proofs.YtkkgpdejmcpcpaaDoor

/- What the rows lay of package errors. -/
namespace Go.Proofs.YtkkgpdejmcpcpaaDoor
open Go.ChangeShapes Go.WideShapes Go.ChangeAt Go.RowKit Go.Deep

/-! ### What the rows lay -/
def laidHere : List (String × DataW Unit) := [("errors.errorType", Rows.laid_errors_errorType)]
theorem ownH : ownKnob Tryd.prog.godebug = none := by kernel_rfl
theorem laidOutH : laidOutB Tryd.prog = true := by kernel_rfl
theorem etH : Tryd.prog.globalNamed "errors.errorType" = some 0 := by kernel_rfl
theorem rtH : (Tryd.prog.cutTypes.find? (·.1 == "internal/reflectlite.rtype")).map (·.2) = some 146 := by kernel_rfl
theorem oneRowH : ((List.range Tryd.prog.types.size).filter fun t => Tryd.prog.rowNamed t [101, 114, 114, 111, 114]) = [30] := by kernel_rfl
theorem errT_of_laid {W : World} (h : laidMetH Tryd.prog laidHere W) : ErrT W := by
  have h' : laidMet Tryd.prog [] W ∧ handlesMet Tryd.prog laidHere W := h
  obtain ⟨name, u, ty, e1, e2, e3, e4, e5⟩ := h'.2 _ (List.mem_singleton.2 rfl)
  have en : name = [101, 114, 114, 111, 114] := (Option.some.inj e1).symm
  subst en
  obtain rfl := Option.some.inj (rtH.symm.trans e2)
  have hm : ty ∈ (List.range Tryd.prog.types.size).filter fun t => Tryd.prog.rowNamed t [101, 114, 114, 111, 114] := List.mem_filter.2 ⟨List.mem_range.2 e3, e4⟩
  rw [oneRowH] at hm
  obtain rfl := List.mem_singleton.1 hm
  have hh : typeHandle Tryd.prog 30 = .pointer (some ⟨1, 30, none⟩) := by kernel_rfl
  rw [hh] at e5
  have := World.var?_cell etH e5 0
  unfold ErrT
  simpa using this
/-- A world that meets the condition. -/
noncomputable def laidWorld (os : Os) : World :=
  let w0 := World.holding Tryd.prog os ⟨#[], #[], []⟩
  { w0 with heap := w0.heap.modify 0 fun
      | .cells _ t frozen => .cells #[.iface 146 (.agg #[.pointer (some ⟨1, 30, none⟩)])] t frozen
      | o => o }
theorem laidWorld_met (os : Os) (args : Array Value) : laidMetH Tryd.prog laidHere ((laidWorld os).forCall (fun _ _ => 0) ⟨#[], args, []⟩).memory :=
  laidMetH_of_parts (laidMet_nil _ _) (by kernel_rfl)
end Go.Proofs.YtkkgpdejmcpcpaaDoor

