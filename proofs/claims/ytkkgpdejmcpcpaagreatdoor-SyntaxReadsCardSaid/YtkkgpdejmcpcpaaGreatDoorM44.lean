/- Parts: XLawSReads, XOpenLaid. -/
import Derived.Test.YtkkgpdejmcpcpaaGreatDoorM43
import Derived.Test.YtkkgpdejmcpcpaaGreatDoorM42
import Derived.Test.YtkkgpdejmcpcpaaGreatDoorM40
import Derived.Test.YtkkgpdejmcpcpaaGreatDoorM41
import Derived.Test.YtkkgpdejmcpcpaaGreatDoorRows
import Derived.Test.YtkkgpdejmcpcpaaGreatDoorM02
import Derived.ChangeSame
import Derived.ChangeVars
import Derived.JoinedOf
import Derived.RowKit
import Derived.RowKitTokens
import Derived.LaidLaws
import Derived.LaidHandle
import Derived.Stop.Joined
import Derived.ProofKit
import Derived.OpenShut
import Derived.ChangeOld
import Derived.Deep.Slices
import Derived.Deep.Fields
/- SyntaxReads: the walk. -/
namespace Go.Proofs.YtkkgpdejmcpcpaaGreatDoor
open Go.RowKit

/-- What both answer: the two squares read alike; the errors are the same. -/
def TwoTold (W : World) (q : SqS) (_p0 _p1 _p2 _p3 : Int) (a0 a1 a2 a3 a4 c0 c1 c2 c3 c4 : Value) (j0 j1 j2 j3 : List Int) (ev : Value) (ec : Int) (ep : Value) : Prop :=
  (∀ p ∈ [(a0, q.large), (a1, j0), (a2, j1), (a3, j2), (a4, j3), (c0, q.large), (c1, j0), (c2, j1), (c3, j2), (c4, j3)], Nums W p.1 p.2) ∧ (∀ l ∈ [q.large, j0, j1, j2, j3], l.length ≤ 1000000) ∧
    ((ev = .nilIface ∧ ec = 0 ∧ ep = nilS) ∨ (ec = 3 ∧ ∃ path : PathS, path.length ≤ 1000 ∧ ErrV W 3 path ev ∧ Steps W ep path))
section
variable {W W' : World} {q : SqS} {p0 p1 p2 p3 : Int} {a0 a1 a2 a3 a4 c0 c1 c2 c3 c4 : Value} {j0 j1 j2 j3 : List Int} {ev : Value} {ec : Int} {ep : Value}
theorem TwoTold.below (h : TwoTold W q p0 p1 p2 p3 a0 a1 a2 a3 a4 c0 c1 c2 c3 c4 j0 j1 j2 j3 ev ec ep) (hb : Below W.heap.size W W') : TwoTold W' q p0 p1 p2 p3 a0 a1 a2 a3 a4 c0 c1 c2 c3 c4 j0 j1 j2 j3 ev ec ep := by
  obtain ⟨h1, h2, h3⟩ := h
  refine ⟨fun p hp => (h1 p hp).below hb, h2, ?_⟩
  rcases h3 with h3 | ⟨h4, path, h5, h6, h7⟩
  · exact .inl h3
  · exact .inr ⟨h4, path, h5, h6.below hb, h7.below hb⟩
theorem TwoTold.err (h : TwoTold W q p0 p1 p2 p3 a0 a1 a2 a3 a4 c0 c1 c2 c3 c4 j0 j1 j2 j3 ev ec ep) (hg : ErrT W) : Calls Tryz.prog 14 #[ev, .agg #[.int .i64 ec, ep]] W fun e w' => e = .returned (.bool true) ∧ Below W.heap.size W w' := by
  obtain ⟨_, _, h3⟩ := h
  rcases h3 with ⟨rfl, rfl, rfl⟩ | ⟨rfl, path, h5, h6, h7⟩
  · exact err_same 0 W hg
  · exact err_path 3 _ ev ep W h6 h7 hg (by omega) h5
theorem TwoTold.same (h : TwoTold W q p0 p1 p2 p3 a0 a1 a2 a3 a4 c0 c1 c2 c3 c4 j0 j1 j2 j3 ev ec ep) : Calls Tryz.prog 13 #[sqV q.kind q.mode p0 p1 p2 p3 q.x q.y a0 a1 a2 a3 a4, sqV q.kind q.mode p0 p1 p2 p3 q.x q.y c0 c1 c2 c3 c4] W fun e w' => e = .returned (.bool true) ∧ Below W.heap.size W w' :=
  same_any q.kind q.mode p0 p1 p2 p3 q.x q.y a0 a1 a2 a3 a4 c0 c1 c2 c3 c4 q.large j0 j1 j2 j3 W h.1 h.2.1
end
theorem sq_inj {z0 z1 z2 z3 z4 z5 z6 z7 y0 y1 y2 y3 y4 y5 y6 y7 : Int} {A0 A1 A2 A3 A4 B0 B1 B2 B3 B4 : Option Addr} {n0 n1 n2 n3 n4 k0 k1 k2 k3 k4 : Nat} {ev ev' : Value} (h : Ending.returned (.tuple #[sqV z0 z1 z2 z3 z4 z5 z6 z7 (.slice A0 n0 n0) (.slice A1 n1 n1) (.slice A2 n2 n2) (.slice A3 n3 n3) (.slice A4 n4 n4), ev]) = .returned (.tuple #[sqV y0 y1 y2 y3 y4 y5 y6 y7 (.slice B0 k0 k0) (.slice B1 k1 k1) (.slice B2 k2 k2) (.slice B3 k3 k3) (.slice B4 k4 k4), ev'])) :
    y0 = z0 ∧ y1 = z1 ∧ y2 = z2 ∧ y3 = z3 ∧ y4 = z4 ∧ y5 = z5 ∧ y6 = z6 ∧ y7 = z7 ∧ (B0 = A0 ∧ k0 = n0) ∧ (B1 = A1 ∧ k1 = n1) ∧ (B2 = A2 ∧ k2 = n2) ∧ (B3 = A3 ∧ k3 = n3) ∧ (B4 = A4 ∧ k4 = n4) ∧ ev' = ev := by
  simp only [sqV, Ending.returned.injEq, Value.tuple.injEq, Array.mk.injEq, List.cons.injEq, Value.agg.injEq, Value.int.injEq, Value.slice.injEq, and_true, true_and] at h
  obtain ⟨⟨h0, h1, h2, h3, h4, h5, h6, h7, ⟨a0, b0, _⟩, ⟨a1, b1, _⟩, ⟨a2, b2, _⟩, ⟨a3, b3, _⟩, a4, b4, _⟩, e⟩ := h
  exact ⟨h0.symm, h1.symm, h2.symm, h3.symm, h4.symm, h5.symm, h6.symm, h7.symm, ⟨a0.symm, b0.symm⟩, ⟨a1.symm, b1.symm⟩, ⟨a2.symm, b2.symm⟩, ⟨a3.symm, b3.symm⟩, ⟨a4.symm, b4.symm⟩, e.symm⟩
theorem told20_of {w5 w6 w6b w7 : World} {F6 G G7 : Nat → Prop} {key : Bool} {r : R20} {e1 e2 : Ending} (hg : GoodS key r)
    (h1 : match r.1 with
      | none => ∃ v, e1 = .returned (.tuple #[v, .nilIface]) ∧ SqVal w5 w6 F6 v r.2
      | some i => ∃ ev, e1 = .returned (.tuple #[zeroV, ev]) ∧ ErrV w6 3 [(⟨#[115, 121, 110, 116, 97, 120]⟩, r.2.kind), (⟨#[99, 111, 101, 102]⟩, (i : Int))] ev)
    (h2 : match r.1 with
      | none => ∃ v, e2 = .returned (.tuple #[v, errA 0]) ∧ SqVal w6b w7 G7 v r.2
      | some i => ∃ pv, e2 = .returned (.tuple #[zeroV, .agg #[.int .i64 3, pv]]) ∧ Steps w7 pv [(⟨#[115, 121, 110, 116, 97, 120]⟩, r.2.kind), (⟨#[99, 111, 101, 102]⟩, (i : Int))])
    (hb : Below w6.heap.size w6 w6b) (ho : Only G w6b w7) (hG : ∀ k, G k → k < w5.heap.size) (hF : ∀ fb cs, Blk w6b fb 132 cs → ¬ G fb) :
    ∃ (q : SqS) (p0 p1 p2 p3 : Int) (A0 A1 A2 A3 A4 C0 C1 C2 C3 C4 : Option Addr) (n0 n1 n2 n3 n4 k0 k1 k2 k3 k4 : Nat) (j0 j1 j2 j3 : List Int) (ev : Value) (ec : Int) (PA : Option Addr) (pn pc : Nat),
      e1 = .returned (.tuple #[sqV q.kind q.mode p0 p1 p2 p3 q.x q.y (.slice A0 n0 n0) (.slice A1 n1 n1) (.slice A2 n2 n2) (.slice A3 n3 n3) (.slice A4 n4 n4), ev]) ∧ e2 = .returned (.tuple #[sqV q.kind q.mode p0 p1 p2 p3 q.x q.y (.slice C0 k0 k0) (.slice C1 k1 k1) (.slice C2 k2 k2) (.slice C3 k3 k3) (.slice C4 k4 k4), .agg #[.int .i64 ec, .slice PA pn pc]]) ∧ TwoTold w7 q p0 p1 p2 p3 (.slice A0 n0 n0) (.slice A1 n1 n1) (.slice A2 n2 n2) (.slice A3 n3 n3) (.slice A4 n4 n4) (.slice C0 k0 k0) (.slice C1 k1 k1) (.slice C2 k2 k2) (.slice C3 k3 k3) (.slice C4 k4 k4) j0 j1 j2 j3 ev ec (.slice PA pn pc) := by
  obtain ⟨ro, rq⟩ := r
  rcases hg with ⟨g1, hright, hparts, hfour⟩ | ⟨i, g1, hkind⟩
  · dsimp only at g1 hright hparts hfour
    subst g1
    obtain ⟨v1, rfl, p0, p1, p2, p3, lv, u0, u1, u2, u3, j0, j1, j2, j3, rfl, hm, hs, y0, y1, y2, y3, y4⟩ := h1
    obtain ⟨v2, rfl, s0, s1, s2, s3, lv', u0', u1', u2', u3', i0, i1, i2, i3, rfl, hm', hs', z0, z1, z2, z3, z4⟩ := h2
    dsimp only at hm hs hm' hs' y0 z0
    obtain ⟨rfl, rfl, rfl, rfl⟩ : p0 = s0 ∧ p1 = s1 ∧ p2 = s2 ∧ p3 = s3 := by simpa using hm.symm.trans hm'
    obtain ⟨rfl, rfl, rfl, rfl⟩ : j0 = i0 ∧ j1 = i1 ∧ j2 = i2 ∧ j3 = i3 := by simpa using hs.symm.trans hs'
    obtain ⟨A0, n0, rfl⟩ := lst_form y0
    obtain ⟨A1, n1, rfl⟩ := lst_form y1
    obtain ⟨A2, n2, rfl⟩ := lst_form y2
    obtain ⟨A3, n3, rfl⟩ := lst_form y3
    obtain ⟨A4, n4, rfl⟩ := lst_form y4
    obtain ⟨C0, k0, rfl⟩ := lst_form z0
    obtain ⟨C1, k1, rfl⟩ := lst_form z1
    obtain ⟨C2, k2, rfl⟩ := lst_form z2
    obtain ⟨C3, k3, rfl⟩ := lst_form z3
    obtain ⟨C4, k4, rfl⟩ := lst_form z4
    have hk : ∀ (v : Value) (l : List Int), Lst w5 v l w6 F6 → Nums w7 v l := fun v l h => ((h.nums).below hb).keepO ho (fun k hk hGk => by
      have := (h.blt k hk).2
      have := hG k hGk
      omega)
    have hl := canon_len hright hparts
    refine ⟨rq, p0, p1, p2, p3, A0, A1, A2, A3, A4, C0, C1, C2, C3, C4, n0, n1, n2, n3, n4, k0, k1, k2, k3, k4, j0, j1, j2, j3, _, 0, none, 0, 0, rfl, rfl, fun p hp => ?_, fun l hl' => ?_, .inl ⟨rfl, rfl, rfl⟩⟩
    · simp only [List.mem_cons, List.not_mem_nil, or_false] at hp
      rcases hp with rfl | rfl | rfl | rfl | rfl | rfl | rfl | rfl | rfl | rfl
      · exact hk _ _ y0
      · exact hk _ _ y1
      · exact hk _ _ y2
      · exact hk _ _ y3
      · exact hk _ _ y4
      · exact z0.nums
      · exact z1.nums
      · exact z2.nums
      · exact z3.nums
      · exact z4.nums
    · rcases List.mem_cons.1 hl' with rfl | hl'
      · omega
      · have := hl.2 l (by rw [hs]; exact hl')
        omega
  · dsimp only at g1
    subst g1
    obtain ⟨ev, rfl, hev⟩ := h1
    obtain ⟨pv, rfl, hst⟩ := h2
    obtain ⟨PA, pn, pc, rfl⟩ := hst.form
    refine ⟨bareS 0, 0, 0, 0, 0, none, none, none, none, none, none, none, none, none, none, 0, 0, 0, 0, 0, 0, 0, 0, 0, 0, [], [], [], [], ev, 3, PA, pn, pc, rfl, rfl, fun p hp => ?_, fun l hl => ?_, .inr ⟨rfl, _, by show 2 ≤ 1000; omega, ErrV.only ho (fun k cs hk hB => hF k cs hB hk) (hev.below hb), hst⟩⟩
    · simp only [List.mem_cons, List.not_mem_nil, or_false] at hp
      rcases hp with rfl | rfl | rfl | rfl | rfl | rfl | rfl | rfl | rfl | rfl <;> exact nums_nilS _
    · simp only [List.mem_cons, List.not_mem_nil, or_false] at hl
      rcases hl with rfl | rfl | rfl | rfl | rfl <;> exact Nat.zero_le _
/-- Both coders, both squares in their blocks, the error. -/
structure KR (w : World) (b1 b2 db : Nat) (F G : Nat → Prop) (s : Rd) (t : XRd) (g6 g7 : Nat) (q : SqS) (p0 p1 p2 p3 : Int) (a0 a1 a2 a3 a4 c0 c1 c2 c3 c4 : Value) (j0 j1 j2 j3 : List Int) (ev : Value) (ec : Int) (ep : Value) (W : World) : Prop where
  T : TwoAt w.heap.size w (AtRd b1) (AtXr b2 db) F G s t W
  a : SqBlk W g6 36 q.kind q.mode [p0, p1, p2, p3] q.x q.y a0 [a1, a2, a3, a4]
  c : SqBlk W g7 42 q.kind q.mode [p0, p1, p2, p3] q.x q.y c0 [c1, c2, c3, c4]
  e : Blk W (g7 + 1) 46 #[.int .i64 ec, ep]
  t : TwoTold W q p0 p1 p2 p3 a0 a1 a2 a3 a4 c0 c1 c2 c3 c4 j0 j1 j2 j3 ev ec ep
theorem KR.below {w : World} {b1 b2 db : Nat} {F G : Nat → Prop} {s : Rd} {t : XRd} {g6 g7 : Nat} {q : SqS} {p0 p1 p2 p3 : Int} {a0 a1 a2 a3 a4 c0 c1 c2 c3 c4 : Value} {j0 j1 j2 j3 : List Int} {ev : Value} {ec : Int} {ep : Value} {W W' : World} (h : KR w b1 b2 db F G s t g6 g7 q p0 p1 p2 p3 a0 a1 a2 a3 a4 c0 c1 c2 c3 c4 j0 j1 j2 j3 ev ec ep W) (hb : Below W.heap.size W W') : KR w b1 b2 db F G s t g6 g7 q p0 p1 p2 p3 a0 a1 a2 a3 a4 c0 c1 c2 c3 c4 j0 j1 j2 j3 ev ec ep W' :=
  ⟨h.T.below (rd_coder b1) (xr_coder b2 db) hb, h.a.below hb, h.c.below hb, h.e.below hb h.e.lt, h.t.below hb⟩
set_option maxRecDepth 100000 in
set_option maxHeartbeats 16000000 in
theorem sreads_walk (x y : Value) (bs : List UInt8) (l : List Bool) (w : World) (hx : Byt w x bs) (_ : bs.length ≤ maxLen) (hy : Els w 1 BoolR y l) (_ : l.length ≤ maxLen) (hsz : bs.length ≤ 140737488351232) (hg : ErrT w) :
    Calls Tryz.prog 4 #[x, y] w fun e w' => e = .returned (.bool true) ∧ Below w.heap.size w w' := by
  obtain ⟨A, c, rfl, hc⟩ := hx.form
  obtain ⟨B, d, rfl, hd⟩ := Els.form hy
  have HG := hid (And.intro hg hg.lt)
  have X := hid hx
  have Y := hid hy
  clear hg hx hc hy hd
  have hbig : decide ((20000 : Int) < (bs.length : Int)) = true ∨ decide ((20000 : Int) < (bs.length : Int)) = false := by cases decide ((20000 : Int) < (bs.length : Int)) <;> simp
  rcases hbig with hbig | hbig
  · go_enter Tryz.func4, Tryz.ntmps4
    go_wp2_with fail
    refine (first20 _ HG.out.1).mono ?_
    rintro e w1 ⟨rfl, h1⟩
    have B1 := hid h1
    clear h1
    go_wp2_with fail
    refine (new_rd _ bs _ (X.out.below B1.out).from_ (by omega)).mono ?_
    rintro e w2 ⟨b1, F1, rfl, _, _, hb1⟩
    have B2 := hid (B1.out.trans (hb1.mono B1.out.size))
    clear hb1
    go_wp2_with fail
    refine (first20 _ (by exact HG.out.1.below B2.out HG.out.2)).mono ?_
    rintro e w4 ⟨rfl, hb4⟩
    have B4 := hid (B2.out.trans (hb4.mono B2.out.size))
    clear hb4
    go_wp2_with fail
    go_ret
    exact ⟨rfl, B4.out⟩
  · have HL := hid (show bs.length ≤ 20000 by simp only [decide_eq_false_iff_not] at hbig; omega)
    go_enter Tryz.func4, Tryz.ntmps4
    go_wp2_with fail
    refine (first20 _ HG.out.1).mono ?_
    rintro e w1 ⟨rfl, h1⟩
    have B1 := hid h1
    clear h1
    go_wp2_with fail
    refine (new_rd _ bs _ (X.out.below B1.out).from_ (by have := HL.out; omega)).mono ?_
    rintro e w2 ⟨b1, F1, rfl, ha1, hf1, hb1⟩
    have O2 := hid (show OwnC (AtRd b1) w (Rd.new bs) w2 F1 from ⟨ha1, fun k hk => Nat.le_trans B1.out.size (hf1 k hk), B1.out.trans (hb1.mono B1.out.size)⟩)
    clear ha1 hf1 hb1
    go_wp2_with fail
    clear hbig
    refine (new_xr _ bs _ (X.out.below O2.out.bel).from_ (by have := HL.out; omega)).mono ?_
    rintro e w3 ⟨b2, db, G1, rfl, ha2, hf2, hb2⟩
    have T2 := hid (show TwoAt w.heap.size w (AtRd b1) (AtXr b2 db) F1 G1 (Rd.new bs) (XRd.new bs) w3 from ⟨(rd_coder b1).keep _ _ F1 (fun _ => False) _ O2.out.a (Only.of_below hb2) (fun _ _ h => h), ha2, fun k h1 h2 => by have := (rd_coder b1).there _ _ _ _ O2.out.a h1; have := hf2 k h2; omega, O2.out.lo, fun k hk => Nat.le_trans O2.out.bel.size (hf2 k hk), O2.out.bel.trans (hb2.mono O2.out.bel.size), Nat.le_trans O2.out.bel.size hb2.size⟩)
    clear ha2 hf2 hb2
    go_wp2_with fail
    go_loopg [7] l.length (fun k iv wr => ∃ (i : Nat) (s : Rd) (t : XRd) (F G : Nat → Prop) (m m2 : Nat), i + k = l.length ∧ iv = .int .i64 i ∧ i ≤ 100 ∧ TwoAt w.heap.size w (AtRd b1) (AtXr b2 db) F G s t wr ∧ RdSim s t ∧ (m ≤ 4 + 9000 * i ∧ m2 ≤ 4 + 9000 * i) ∧ s.Ok m ∧ t.Ok m2)
    case atStart => exact ⟨0, Rd.new bs, XRd.new bs, F1, G1, 4, 4, by omega, rfl, by omega, T2.out, sim_new bs, by omega, ok_rd_new bs, ok_xr_new bs⟩
    case round =>
      obtain ⟨i, s, t, F, G, m, m2, hik, rfl, hi200, hown, hsim, ⟨hm, hm2⟩, hok, hok2⟩ := hrel
      have O := hid (And.intro hown (And.intro hsim (And.intro hok hok2)))
      have hcase : (decide ((i : Int) < (l.length : Int)) = false ∧ ¬ i < l.length) ∨ (i < l.length ∧ decide ((i : Int) < (l.length : Int)) = true ∧ decide ((i : Int) < 100) = false) ∨ (i < l.length ∧ decide ((i : Int) < (l.length : Int)) = true ∧ decide ((i : Int) < 100) = true) := by
        by_cases h1 : i < l.length
        · have e1 : decide ((i : Int) < (l.length : Int)) = true := by simp; omega
          by_cases h2 : i < 100
          · exact .inr (.inr ⟨h1, e1, by simp; omega⟩)
          · exact .inr (.inl ⟨h1, e1, by simp; omega⟩)
        · exact .inl ⟨by simp; omega, h1⟩
      rcases hcase with ⟨h1, h2⟩ | ⟨h1, h2, h3⟩ | ⟨h1, h2, h3⟩
      · have h9 : decide (i < l.length) = false := decide_eq_false h2
        clear hown hsim hok hok2
        go_wp2_with fail
        refine (first20 _ (by exact HG.out.1.below O.out.1.bel HG.out.2)).mono ?_
        rintro e w4 ⟨rfl, hb4⟩
        have B4 := hid (O.out.1.bel.trans (hb4.mono O.out.1.bel.size))
        clear hb4
        go_wp2_with fail
        go_ret
        exact ⟨rfl, B4.out⟩
      · have h9 : decide (i < l.length) = true := decide_eq_true h1
        clear hown hsim hok hok2
        go_wp2_with fail
        refine (first20 _ (by exact HG.out.1.below O.out.1.bel HG.out.2)).mono ?_
        rintro e w4 ⟨rfl, hb4⟩
        have B4 := hid (O.out.1.bel.trans (hb4.mono O.out.1.bel.size))
        clear hb4
        go_wp2_with fail
        go_ret
        exact ⟨rfl, B4.out⟩
      · have h9 : decide (i < l.length) = true := decide_eq_true h1
        obtain ⟨u, hu⟩ : ∃ u, l[i]? = some u := ⟨l[i], List.getElem?_eq_getElem h1⟩
        obtain ⟨b4, o4, cs0, rfl, hb4, _, rfl, hcell⟩ := Els.at_ Y.out hu
        have hc0 : w.cell? ⟨b4, o4 + i, none⟩ = some (.bool u) := by simpa using hcell 0 _ rfl
        have f0 := (hown.bel.cell (p := ⟨b4, o4 + i, none⟩) hb4).trans hc0
        have FK := hid (fun W (hb : Below w.heap.size w W) => (hb.cell (p := ⟨b4, o4 + i, none⟩) hb4).trans hc0)
        have k0 : (0 : Int) ≤ (i : Int) := by omega
        have k1 : (i : Int) < (l.length : Int) := by omega
        have HI := hid (And.intro hik h1)
        have hi3 : i < 100 := by simp only [decide_eq_true_eq] at h3; omega
        clear hown hsim hok hok2 hu hcell hb4 hc0
        go_wp2_with fail
        refine (rcode20 b1 u _ ⟨0, 0, [0, 0, 0, 0], 0, 0, [], [[], [], [], []]⟩ 0 0 0 0 nilS nilS nilS nilS nilS [] [] [] [] s _ F m (sq_zero _ 0 0) (by exact O.out.1.l) O.out.2.2.1 (by omega)).mono ?_
        rintro e w6 ⟨F6, hcw, hans⟩
        have hgood := All.run rdM (all_code u) s
        obtain ⟨m6, hm6, hok6⟩ := ok_code20 (rd_coder b1) u zeroS (by decide) s m O.out.2.2.1
        obtain ⟨m7, hm7, hok7⟩ := ok_code20 (xr_coder b2 db) u zeroS (by decide) t m2 O.out.2.2.2
        obtain ⟨hal1, hal2⟩ := rd_alike.run (codeA u zeroS) (ctx_code u zeroS) O.out.2.1
        have hG5 : ∀ k, G k → k < wr.heap.size := fun k hk => (xr_coder b2 db).there _ _ _ _ O.out.1.r hk
        have hT6 := O.out.1.leftC (xr_coder b2 db) hcw
        obtain ⟨A0, A1, A2, A3, A4, n0, n1, n2, n3, n4, z0, z1, z2, z3, z4, z5, z6, z7, ev, rfl⟩ : ∃ (A0 A1 A2 A3 A4 : Option Addr) (n0 n1 n2 n3 n4 : Nat) (z0 z1 z2 z3 z4 z5 z6 z7 : Int) (ev : Value), e = .returned (.tuple #[sqV z0 z1 z2 z3 z4 z5 z6 z7 (.slice A0 n0 n0) (.slice A1 n1 n1) (.slice A2 n2 n2) (.slice A3 n3 n3) (.slice A4 n4 n4), ev]) := by
          rcases hgood with ⟨g1, _⟩ | ⟨j, g1, _⟩
          · rw [g1] at hans
            obtain ⟨v6, rfl, m0, m1, m2', m3, lv, v0, v1, v2, v3, l0, l1, l2, l3, rfl, _, _, y0, y1, y2, y3, y4⟩ := hans
            obtain ⟨A0, n0, rfl⟩ := lst_form y0
            obtain ⟨A1, n1, rfl⟩ := lst_form y1
            obtain ⟨A2, n2, rfl⟩ := lst_form y2
            obtain ⟨A3, n3, rfl⟩ := lst_form y3
            obtain ⟨A4, n4, rfl⟩ := lst_form y4
            exact ⟨_, _, _, _, _, _, _, _, _, _, _, _, _, _, _, _, _, _, _, rfl⟩
          · rw [g1] at hans
            obtain ⟨ev, rfl, _⟩ := hans
            exact ⟨none, none, none, none, none, 0, 0, 0, 0, 0, 0, 0, 0, 0, 0, 0, 0, 0, ev, rfl⟩
        have hal : Below w6.heap.size w6 (w6.alloc (.cells #[.int .i64 z0, .int .i64 z1, .int .i64 z2, .int .i64 z3, .int .i64 z4, .int .i64 z5, .int .i64 z6, .int .i64 z7, .slice A0 n0 n0, .slice A1 n1 n1, .slice A2 n2 n2, .slice A3 n3 n3, .slice A4 n4 n4] 36)) := (Below.refl _ _).alloc (Nat.le_refl _) _
        have T6 := hid (hT6.below (rd_coder b1) (xr_coder b2 db) hal)
        have A6 := hid (show SqBlk (w6.alloc (.cells #[.int .i64 z0, .int .i64 z1, .int .i64 z2, .int .i64 z3, .int .i64 z4, .int .i64 z5, .int .i64 z6, .int .i64 z7, .slice A0 n0 n0, .slice A1 n1 n1, .slice A2 n2 n2, .slice A3 n3 n3, .slice A4 n4 n4] 36)) w6.heap.size 36 z0 z1 [z2, z3, z4, z5] z6 z7 (.slice A0 n0 n0) [.slice A1 n1 n1, .slice A2 n2 n2, .slice A3 n3 n3, .slice A4 n4 n4] from SqBlk.of (Blk.new _ _ _) rfl)
        have f1 := FK.out _ T6.out.bel
        have PK := hid (And.intro hgood (And.intro hans (And.intro hal (And.intro hG5 (And.intro hal1 hcw.o.size)))))
        have OKS := hid (And.intro hok6 (And.intro hok7 hal2))
        clear hgood hans hal hG5 hal1 hcw hT6 hok6 hok7 hal2 f0
        unfold sqV
        go_wp2_with fail
        clear f1
        generalize w6.alloc (.cells #[.int .i64 z0, .int .i64 z1, .int .i64 z2, .int .i64 z3, .int .i64 z4, .int .i64 z5, .int .i64 z6, .int .i64 z7, .slice A0 n0 n0, .slice A1 n1 n1, .slice A2 n2 n2, .slice A3 n3 n3, .slice A4 n4 n4] 36) = w6b at *
        refine (rrcode20 b2 db u _ ⟨0, 0, [0, 0, 0, 0], 0, 0, [], [[], [], [], []]⟩ 0 0 0 0 nilS nilS nilS nilS nilS [] [] [] [] t _ G m2 (sq_zero _ 0 0) (by exact T6.out.r) O.out.2.2.2 (by omega)).mono ?_
        rintro e w7 ⟨G7, hcw7, hans7⟩
        rw [← PK.out.2.2.2.2.1] at hans7
        obtain ⟨q, p0, p1, p2, p3, A0', A1', A2', A3', A4', C0, C1, C2, C3, C4, n0', n1', n2', n3', n4', k0', k1', k2', k3', k4', j0, j1, j2, j3, ev', ec, PA, pn, pc, e1, rfl, htold⟩ := told20_of PK.out.1 PK.out.2.1 hans7 PK.out.2.2.1 hcw7.o PK.out.2.2.2.1 (fun fb cs hB => xr_no_fault T6.out.r hB)
        obtain ⟨rfl, rfl, rfl, rfl, rfl, rfl, rfl, rfl, ⟨rfl, rfl⟩, ⟨rfl, rfl⟩, ⟨rfl, rfl⟩, ⟨rfl, rfl⟩, ⟨rfl, rfl⟩, rfl⟩ := sq_inj e1
        have hT7 := T6.out.rightC (rd_coder b1) hcw7
        have hA7 := A6.out.keep hcw7.o (fun e => by have := PK.out.2.2.2.1 _ e; have := PK.out.2.2.2.2.2; omega)
        have hal7 : Below w7.heap.size w7 (w7.alloc (.cells #[.int .i64 q.kind, .int .i64 q.mode, .int .i64 p0, .int .i64 p1, .int .i64 p2, .int .i64 p3, .int .i64 q.x, .int .i64 q.y, .slice C0 k0' k0', .slice C1 k1' k1', .slice C2 k2' k2', .slice C3 k3' k3', .slice C4 k4' k4'] 42)) := (Below.refl _ _).alloc (Nat.le_refl _) _
        have hal8 : Below w7.heap.size w7 ((w7.alloc (.cells #[.int .i64 q.kind, .int .i64 q.mode, .int .i64 p0, .int .i64 p1, .int .i64 p2, .int .i64 p3, .int .i64 q.x, .int .i64 q.y, .slice C0 k0' k0', .slice C1 k1' k1', .slice C2 k2' k2', .slice C3 k3' k3', .slice C4 k4' k4'] 42)).alloc (.cells #[.int .i64 ec, .slice PA pn pc] 46)) := hal7.alloc (by simp) _
        have hC8 : SqBlk ((w7.alloc (.cells #[.int .i64 q.kind, .int .i64 q.mode, .int .i64 p0, .int .i64 p1, .int .i64 p2, .int .i64 p3, .int .i64 q.x, .int .i64 q.y, .slice C0 k0' k0', .slice C1 k1' k1', .slice C2 k2' k2', .slice C3 k3' k3', .slice C4 k4' k4'] 42)).alloc (.cells #[.int .i64 ec, .slice PA pn pc] 46)) w7.heap.size 42 q.kind q.mode [p0, p1, p2, p3] q.x q.y (.slice C0 k0' k0') [.slice C1 k1' k1', .slice C2 k2' k2', .slice C3 k3' k3', .slice C4 k4' k4'] := SqBlk.of ((Blk.new _ _ _).alloc _) rfl
        have K8 := hid (show KR w b1 b2 db F6 G7 (rdM.run (codeA u zeroS) s).2 (xrM.run (codeA u zeroS) t).2 w6.heap.size w7.heap.size q p0 p1 p2 p3 (.slice A0' n0' n0') (.slice A1' n1' n1') (.slice A2' n2' n2') (.slice A3' n3' n3') (.slice A4' n4' n4') (.slice C0 k0' k0') (.slice C1 k1' k1') (.slice C2 k2' k2') (.slice C3 k3' k3') (.slice C4 k4' k4') j0 j1 j2 j3 ev' ec (.slice PA pn pc) ((w7.alloc (.cells #[.int .i64 q.kind, .int .i64 q.mode, .int .i64 p0, .int .i64 p1, .int .i64 p2, .int .i64 p3, .int .i64 q.x, .int .i64 q.y, .slice C0 k0' k0', .slice C1 k1' k1', .slice C2 k2' k2', .slice C3 k3' k3', .slice C4 k4' k4'] 42)).alloc (.cells #[.int .i64 ec, .slice PA pn pc] 46)) from ⟨hT7.below (rd_coder b1) (xr_coder b2 db) hal8, hA7.below hal8, hC8, Blk.newAt' _ _ _ (by simp), htold.below hal8⟩)
        clear hT7 hA7 hal7 hal8 hC8 htold e1 T6 A6 PK hans7 hcw7
        unfold sqV
        go_upto_region 12 with fail
        generalize ((w7.alloc _).alloc _ : World) = w8 at *
        generalize w7.heap.size = g7 at *
        generalize w6.heap.size = g6 at *
        generalize (rdM.run (codeA u zeroS) s).2 = s7 at *
        generalize (xrM.run (codeA u zeroS) t).2 = t7 at *
        have hcells : ∀ W, KR w b1 b2 db F6 G7 s7 t7 g6 g7 q p0 p1 p2 p3 (.slice A0' n0' n0') (.slice A1' n1' n1') (.slice A2' n2' n2') (.slice A3' n3' n3') (.slice A4' n4' n4') (.slice C0 k0' k0') (.slice C1 k1' k1') (.slice C2 k2' k2') (.slice C3 k3' k3') (.slice C4 k4' k4') j0 j1 j2 j3 ev' ec (.slice PA pn pc) W → ((W.cell? ⟨g6, 0, none⟩ = some (.int .i64 q.kind) ∧ W.cell? ⟨g6, 1, none⟩ = some (.int .i64 q.mode) ∧ W.cell? ⟨g6, 2, none⟩ = some (.int .i64 p0) ∧ W.cell? ⟨g6, 3, none⟩ = some (.int .i64 p1) ∧ W.cell? ⟨g6, 4, none⟩ = some (.int .i64 p2) ∧ W.cell? ⟨g6, 5, none⟩ = some (.int .i64 p3) ∧ W.cell? ⟨g6, 6, none⟩ = some (.int .i64 q.x) ∧ W.cell? ⟨g6, 7, none⟩ = some (.int .i64 q.y) ∧ W.cell? ⟨g6, 8, none⟩ = some (.slice A0' n0' n0') ∧ W.cell? ⟨g6, 9, none⟩ = some (.slice A1' n1' n1') ∧ W.cell? ⟨g6, 10, none⟩ = some (.slice A2' n2' n2') ∧ W.cell? ⟨g6, 11, none⟩ = some (.slice A3' n3' n3') ∧ W.cell? ⟨g6, 12, none⟩ = some (.slice A4' n4' n4')) ∧ (W.cell? ⟨g7, 0, none⟩ = some (.int .i64 q.kind) ∧ W.cell? ⟨g7, 1, none⟩ = some (.int .i64 q.mode) ∧ W.cell? ⟨g7, 2, none⟩ = some (.int .i64 p0) ∧ W.cell? ⟨g7, 3, none⟩ = some (.int .i64 p1) ∧ W.cell? ⟨g7, 4, none⟩ = some (.int .i64 p2) ∧ W.cell? ⟨g7, 5, none⟩ = some (.int .i64 p3) ∧ W.cell? ⟨g7, 6, none⟩ = some (.int .i64 q.x) ∧ W.cell? ⟨g7, 7, none⟩ = some (.int .i64 q.y) ∧ W.cell? ⟨g7, 8, none⟩ = some (.slice C0 k0' k0') ∧ W.cell? ⟨g7, 9, none⟩ = some (.slice C1 k1' k1') ∧ W.cell? ⟨g7, 10, none⟩ = some (.slice C2 k2' k2') ∧ W.cell? ⟨g7, 11, none⟩ = some (.slice C3 k3' k3') ∧ W.cell? ⟨g7, 12, none⟩ = some (.slice C4 k4' k4'))) ∧ (W.cell? ⟨g7 + 1, 0, none⟩ = some (.int .i64 ec) ∧ W.cell? ⟨g7 + 1, 1, none⟩ = some (.slice PA pn pc)) ∧ W.cell? ⟨b2, 2, none⟩ = some (.pointer (some ⟨db, 0, none⟩)) := by
          intro W h
          obtain ⟨⟨c0, c1⟩, ⟨c2, c3, c4, c5⟩, ⟨c6, c7, c8⟩, c9, c10, c11, c12⟩ := h.a.all4
          obtain ⟨⟨d0, d1⟩, ⟨d2, d3, d4, d5⟩, ⟨d6, d7, d8⟩, d9, d10, d11, d12⟩ := h.c.all4
          exact ⟨⟨⟨c0, c1, c2, c3, c4, c5, c6, c7, c8, c9, c10, c11, c12⟩, d0, d1, d2, d3, d4, d5, d6, d7, d8, d9, d10, d11, d12⟩, blk2R h.e, xr_D h.T.r⟩
        have HCL := hid hcells
        have K7 := hid (hcells _ K8.out)
        have K8d := hid (K8.out.below (Below.refl w8.heap.size w8).drew)
        have K7d := hid (hcells _ K8d.out)
        have hdr : ∀ (W : World) (m : Nat), ((W.cell? ⟨g6, 0, none⟩ = some (.int .i64 q.kind) ∧ W.cell? ⟨g6, 1, none⟩ = some (.int .i64 q.mode) ∧ W.cell? ⟨g6, 2, none⟩ = some (.int .i64 p0) ∧ W.cell? ⟨g6, 3, none⟩ = some (.int .i64 p1) ∧ W.cell? ⟨g6, 4, none⟩ = some (.int .i64 p2) ∧ W.cell? ⟨g6, 5, none⟩ = some (.int .i64 p3) ∧ W.cell? ⟨g6, 6, none⟩ = some (.int .i64 q.x) ∧ W.cell? ⟨g6, 7, none⟩ = some (.int .i64 q.y) ∧ W.cell? ⟨g6, 8, none⟩ = some (.slice A0' n0' n0') ∧ W.cell? ⟨g6, 9, none⟩ = some (.slice A1' n1' n1') ∧ W.cell? ⟨g6, 10, none⟩ = some (.slice A2' n2' n2') ∧ W.cell? ⟨g6, 11, none⟩ = some (.slice A3' n3' n3') ∧ W.cell? ⟨g6, 12, none⟩ = some (.slice A4' n4' n4')) ∧ (W.cell? ⟨g7, 0, none⟩ = some (.int .i64 q.kind) ∧ W.cell? ⟨g7, 1, none⟩ = some (.int .i64 q.mode) ∧ W.cell? ⟨g7, 2, none⟩ = some (.int .i64 p0) ∧ W.cell? ⟨g7, 3, none⟩ = some (.int .i64 p1) ∧ W.cell? ⟨g7, 4, none⟩ = some (.int .i64 p2) ∧ W.cell? ⟨g7, 5, none⟩ = some (.int .i64 p3) ∧ W.cell? ⟨g7, 6, none⟩ = some (.int .i64 q.x) ∧ W.cell? ⟨g7, 7, none⟩ = some (.int .i64 q.y) ∧ W.cell? ⟨g7, 8, none⟩ = some (.slice C0 k0' k0') ∧ W.cell? ⟨g7, 9, none⟩ = some (.slice C1 k1' k1') ∧ W.cell? ⟨g7, 10, none⟩ = some (.slice C2 k2' k2') ∧ W.cell? ⟨g7, 11, none⟩ = some (.slice C3 k3' k3') ∧ W.cell? ⟨g7, 12, none⟩ = some (.slice C4 k4' k4'))) ∧ (W.cell? ⟨g7 + 1, 0, none⟩ = some (.int .i64 ec) ∧ W.cell? ⟨g7 + 1, 1, none⟩ = some (.slice PA pn pc)) ∧ W.cell? ⟨b2, 2, none⟩ = some (.pointer (some ⟨db, 0, none⟩)) → (((W.drewN m).cell? ⟨g6, 0, none⟩ = some (.int .i64 q.kind) ∧ (W.drewN m).cell? ⟨g6, 1, none⟩ = some (.int .i64 q.mode) ∧ (W.drewN m).cell? ⟨g6, 2, none⟩ = some (.int .i64 p0) ∧ (W.drewN m).cell? ⟨g6, 3, none⟩ = some (.int .i64 p1) ∧ (W.drewN m).cell? ⟨g6, 4, none⟩ = some (.int .i64 p2) ∧ (W.drewN m).cell? ⟨g6, 5, none⟩ = some (.int .i64 p3) ∧ (W.drewN m).cell? ⟨g6, 6, none⟩ = some (.int .i64 q.x) ∧ (W.drewN m).cell? ⟨g6, 7, none⟩ = some (.int .i64 q.y) ∧ (W.drewN m).cell? ⟨g6, 8, none⟩ = some (.slice A0' n0' n0') ∧ (W.drewN m).cell? ⟨g6, 9, none⟩ = some (.slice A1' n1' n1') ∧ (W.drewN m).cell? ⟨g6, 10, none⟩ = some (.slice A2' n2' n2') ∧ (W.drewN m).cell? ⟨g6, 11, none⟩ = some (.slice A3' n3' n3') ∧ (W.drewN m).cell? ⟨g6, 12, none⟩ = some (.slice A4' n4' n4')) ∧ ((W.drewN m).cell? ⟨g7, 0, none⟩ = some (.int .i64 q.kind) ∧ (W.drewN m).cell? ⟨g7, 1, none⟩ = some (.int .i64 q.mode) ∧ (W.drewN m).cell? ⟨g7, 2, none⟩ = some (.int .i64 p0) ∧ (W.drewN m).cell? ⟨g7, 3, none⟩ = some (.int .i64 p1) ∧ (W.drewN m).cell? ⟨g7, 4, none⟩ = some (.int .i64 p2) ∧ (W.drewN m).cell? ⟨g7, 5, none⟩ = some (.int .i64 p3) ∧ (W.drewN m).cell? ⟨g7, 6, none⟩ = some (.int .i64 q.x) ∧ (W.drewN m).cell? ⟨g7, 7, none⟩ = some (.int .i64 q.y) ∧ (W.drewN m).cell? ⟨g7, 8, none⟩ = some (.slice C0 k0' k0') ∧ (W.drewN m).cell? ⟨g7, 9, none⟩ = some (.slice C1 k1' k1') ∧ (W.drewN m).cell? ⟨g7, 10, none⟩ = some (.slice C2 k2' k2') ∧ (W.drewN m).cell? ⟨g7, 11, none⟩ = some (.slice C3 k3' k3') ∧ (W.drewN m).cell? ⟨g7, 12, none⟩ = some (.slice C4 k4' k4'))) ∧ ((W.drewN m).cell? ⟨g7 + 1, 0, none⟩ = some (.int .i64 ec) ∧ (W.drewN m).cell? ⟨g7 + 1, 1, none⟩ = some (.slice PA pn pc)) ∧ (W.drewN m).cell? ⟨b2, 2, none⟩ = some (.pointer (some ⟨db, 0, none⟩)) := fun W m h => h
        have HDR := hid hdr
        clear hcells hdr
        have hnA : t7.d.at_ - t7.d.bs.length = s7.d.at_ - s7.d.bs.length := by
          have h := OKS.out.2.2.d
          rw [h.at_, h.bs]
        have HOV := hid (fun W (h : AtRd b1 W F6 s7) => at_over b1 W F6 s7 h OKS.out.1.P.len (by have := OKS.out.1.d.at_; omega))
        have HROV := hid (fun W (h : AtXr b2 db W G7 t7) => xr_over b2 db W G7 t7 h (by have := OKS.out.2.1.d.at_; omega))
        rw [hnA] at HROV
        generalize s7.d.at_ - s7.d.bs.length = nA at *
        clear hnA
        have HSM := hid (fun W (h : KR w b1 b2 db F6 G7 s7 t7 g6 g7 q p0 p1 p2 p3 (.slice A0' n0' n0') (.slice A1' n1' n1') (.slice A2' n2' n2') (.slice A3' n3' n3') (.slice A4' n4' n4') (.slice C0 k0' k0') (.slice C1 k1' k1') (.slice C2 k2' k2') (.slice C3 k3' k3') (.slice C4 k4' k4') j0 j1 j2 j3 ev' ec (.slice PA pn pc) W) => h.t.same)
        unfold sqV at HSM
        go_region_held_law (fun W => ((W.cell? ⟨g6, 0, none⟩ = some (.int .i64 q.kind) ∧ W.cell? ⟨g6, 1, none⟩ = some (.int .i64 q.mode) ∧ W.cell? ⟨g6, 2, none⟩ = some (.int .i64 p0) ∧ W.cell? ⟨g6, 3, none⟩ = some (.int .i64 p1) ∧ W.cell? ⟨g6, 4, none⟩ = some (.int .i64 p2) ∧ W.cell? ⟨g6, 5, none⟩ = some (.int .i64 p3) ∧ W.cell? ⟨g6, 6, none⟩ = some (.int .i64 q.x) ∧ W.cell? ⟨g6, 7, none⟩ = some (.int .i64 q.y) ∧ W.cell? ⟨g6, 8, none⟩ = some (.slice A0' n0' n0') ∧ W.cell? ⟨g6, 9, none⟩ = some (.slice A1' n1' n1') ∧ W.cell? ⟨g6, 10, none⟩ = some (.slice A2' n2' n2') ∧ W.cell? ⟨g6, 11, none⟩ = some (.slice A3' n3' n3') ∧ W.cell? ⟨g6, 12, none⟩ = some (.slice A4' n4' n4')) ∧ (W.cell? ⟨g7, 0, none⟩ = some (.int .i64 q.kind) ∧ W.cell? ⟨g7, 1, none⟩ = some (.int .i64 q.mode) ∧ W.cell? ⟨g7, 2, none⟩ = some (.int .i64 p0) ∧ W.cell? ⟨g7, 3, none⟩ = some (.int .i64 p1) ∧ W.cell? ⟨g7, 4, none⟩ = some (.int .i64 p2) ∧ W.cell? ⟨g7, 5, none⟩ = some (.int .i64 p3) ∧ W.cell? ⟨g7, 6, none⟩ = some (.int .i64 q.x) ∧ W.cell? ⟨g7, 7, none⟩ = some (.int .i64 q.y) ∧ W.cell? ⟨g7, 8, none⟩ = some (.slice C0 k0' k0') ∧ W.cell? ⟨g7, 9, none⟩ = some (.slice C1 k1' k1') ∧ W.cell? ⟨g7, 10, none⟩ = some (.slice C2 k2' k2') ∧ W.cell? ⟨g7, 11, none⟩ = some (.slice C3 k3' k3') ∧ W.cell? ⟨g7, 12, none⟩ = some (.slice C4 k4' k4'))) ∧ (W.cell? ⟨g7 + 1, 0, none⟩ = some (.int .i64 ec) ∧ W.cell? ⟨g7 + 1, 1, none⟩ = some (.slice PA pn pc)) ∧ W.cell? ⟨b2, 2, none⟩ = some (.pointer (some ⟨db, 0, none⟩)))
          (with_reducible first | exact K12.out | exact K11.out | exact K10.out | exact K9.out | exact K7d.out | exact K7.out)
          (first
            | (go_at_call 21
               have hN := T11.out
               refine (HROV.out _ (by exact hN.r)).mono ?_
               rintro e w12 ⟨rfl, m12, rfl⟩
               have T12 := hid (hN.read (rd_coder b1) (xr_coder b2 db) ((Only.refl _ _).drewN m12))
               have K12 := hid (HDR.out _ (m11 + m12) K10.out)
               clear hN)
            | (go_at_call 20
               have hN := Q10.out.T
               refine (HOV.out _ (by exact hN.l)).mono ?_
               rintro e w11 ⟨rfl, m11, rfl⟩
               have T11 := hid (hN.read (rd_coder b1) (xr_coder b2 db) ((Only.refl _ _).drewN m11))
               have K11 := hid (HDR.out _ m11 K10.out)
               clear hN)
            | (go_at_call 14
               have hN := Q9.out
               refine (hN.t.err (by exact HG.out.1.below hN.T.bel HG.out.2)).mono ?_
               rintro e w10 ⟨rfl, hb⟩
               have Q10 := hid (hN.below hb)
               have K10 := hid (HCL.out _ Q10.out)
               clear hb hN)
            | (go_at_call 13
               have hN := K8d.out
               refine (HSM.out _ hN).mono ?_
               rintro e w9 ⟨rfl, hb⟩
               have Q9 := hid (hN.below hb)
               have K9 := hid (HCL.out _ Q9.out)
               clear hb hN)
            | fail)
        have h13 := T12.out
        rw [World.drewN_drewN] at h13
        have T13 := hid h13
        have hev0 := K8.out.t.2.2
        clear h13 K7 K7d K9 K10 K11 K12 HCL HSM HOV HROV HDR
        rcases hev0 with ⟨hev, _, _⟩ | ⟨_, path, _, hev, _⟩
        · subst hev
          go_wp2_with fail
          go_roundg (gk - 1)
          case measure => have := HI.out; omega
          case rel => exact ⟨i + 1, s7, t7, F6, G7, m6, m7, by have := HI.out; omega, by go_num, by omega, T13.out, OKS.out.2.2, by omega, OKS.out.1, OKS.out.2.1⟩
        · obtain ⟨tv, xv, hform⟩ := hev.form
          subst hform
          clear hev
          go_wp2_with fail
          refine (first20 _ (by exact HG.out.1.below T13.out.bel HG.out.2)).mono ?_
          rintro e w13 ⟨rfl, hb13⟩
          have B13 := hid (T13.out.bel.trans (hb13.mono T13.out.size))
          clear hb13
          go_wp2_with fail
          go_ret
          exact ⟨rfl, B13.out⟩
end Go.Proofs.YtkkgpdejmcpcpaaGreatDoor

/- What the rows lay of package errors. -/
namespace Go.Proofs.YtkkgpdejmcpcpaaGreatDoor
open Go.ChangeShapes Go.WideShapes Go.ChangeAt Go.RowKit Go.Deep

/-! ### What the rows lay -/
def laidHere : List (String × DataW Unit) := [("errors.errorType", Rows.laid_errors_errorType)]
theorem ownH : ownKnob Tryz.prog.godebug = none := by kernel_rfl
theorem laidOutH : laidOutB Tryz.prog = true := by kernel_rfl
theorem etH : Tryz.prog.globalNamed "errors.errorType" = some 0 := by kernel_rfl
theorem rtH : (Tryz.prog.cutTypes.find? (·.1 == "internal/reflectlite.rtype")).map (·.2) = some 170 := by kernel_rfl
theorem oneRowH : ((List.range Tryz.prog.types.size).filter fun t => Tryz.prog.rowNamed t [101, 114, 114, 111, 114]) = [39] := by kernel_rfl
theorem errT_of_laid {W : World} (h : laidMetH Tryz.prog laidHere W) : ErrT W := by
  have h' : laidMet Tryz.prog [] W ∧ handlesMet Tryz.prog laidHere W := h
  obtain ⟨name, u, ty, e1, e2, e3, e4, e5⟩ := h'.2 _ (List.mem_singleton.2 rfl)
  have en : name = [101, 114, 114, 111, 114] := (Option.some.inj e1).symm
  subst en
  obtain rfl := Option.some.inj (rtH.symm.trans e2)
  have hm : ty ∈ (List.range Tryz.prog.types.size).filter fun t => Tryz.prog.rowNamed t [101, 114, 114, 111, 114] := List.mem_filter.2 ⟨List.mem_range.2 e3, e4⟩
  rw [oneRowH] at hm
  obtain rfl := List.mem_singleton.1 hm
  have hh : typeHandle Tryz.prog 39 = .pointer (some ⟨1, 39, none⟩) := by kernel_rfl
  rw [hh] at e5
  have := World.var?_cell etH e5 0
  unfold ErrT
  simpa using this
/-- A world that meets the condition. -/
noncomputable def laidWorld (os : Os) : World :=
  let w0 := World.holding Tryz.prog os ⟨#[], #[], []⟩
  { w0 with heap := w0.heap.modify 0 fun
      | .cells _ t frozen => .cells #[.iface 170 (.agg #[.pointer (some ⟨1, 39, none⟩)])] t frozen
      | o => o }
theorem laidWorld_met (os : Os) (args : Array Value) : laidMetH Tryz.prog laidHere ((laidWorld os).forCall (fun _ _ => 0) ⟨#[], args, []⟩).memory :=
  laidMetH_of_parts (laidMet_nil _ _) (by kernel_rfl)
end Go.Proofs.YtkkgpdejmcpcpaaGreatDoor

