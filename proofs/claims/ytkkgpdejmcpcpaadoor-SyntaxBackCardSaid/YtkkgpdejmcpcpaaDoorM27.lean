/- Parts: XSame20, XPlain20. -/
import Derived.Test.YtkkgpdejmcpcpaaDoorM26
import Derived.Test.YtkkgpdejmcpcpaaDoorM02
import Derived.Deep.RegionHeldLaw
/- Chapter 20: kinlaw20.Same, Plain, parts. -/
namespace Go.Proofs.YtkkgpdejmcpcpaaDoor
open Go.RowKit

/-- Two squares in their boxes, of the same numbers and lists. -/
structure SM (w : World) (k mode : Int) (m0 m1 m2 m3 x y : Int) (lv v0 v1 v2 v3 lu u0 u1 u2 u3 : Value) (L l0 l1 l2 l3 : List Int) (W : World) : Prop where
  bel : Below w.heap.size w W
  a : SqBlk W w.heap.size 60 k mode [m0, m1, m2, m3] x y lv [v0, v1, v2, v3]
  b : SqBlk W (w.heap.size + 1) 64 k mode [m0, m1, m2, m3] x y lu [u0, u1, u2, u3]
  ns : ∀ p ∈ [(lv, L), (v0, l0), (v1, l1), (v2, l2), (v3, l3), (lu, L), (u0, l0), (u1, l1), (u2, l2), (u3, l3)], Nums W p.1 p.2
section
variable {w W W' : World} {k mode m0 m1 m2 m3 x y : Int} {lv v0 v1 v2 v3 lu u0 u1 u2 u3 : Value} {L l0 l1 l2 l3 : List Int}
theorem SM.below (h : SM w k mode m0 m1 m2 m3 x y lv v0 v1 v2 v3 lu u0 u1 u2 u3 L l0 l1 l2 l3 W) (hb : Below W.heap.size W W') : SM w k mode m0 m1 m2 m3 x y lv v0 v1 v2 v3 lu u0 u1 u2 u3 L l0 l1 l2 l3 W' :=
  ⟨h.bel.trans (hb.mono h.bel.size), h.a.below hb, h.b.below hb, fun p hp => (h.ns p hp).below hb⟩
theorem SM.nth (_h : SM w k mode m0 m1 m2 m3 x y lv v0 v1 v2 v3 lu u0 u1 u2 u3 L l0 l1 l2 l3 W) (i : Nat) (hi : i < 4) : ∃ v u l, [v0, v1, v2, v3].getD i nilS = v ∧ [u0, u1, u2, u3].getD i nilS = u ∧ [l0, l1, l2, l3].getD i [] = l ∧ (v, l) ∈ [(lv, L), (v0, l0), (v1, l1), (v2, l2), (v3, l3), (lu, L), (u0, l0), (u1, l1), (u2, l2), (u3, l3)] ∧ (u, l) ∈ [(lv, L), (v0, l0), (v1, l1), (v2, l2), (v3, l3), (lu, L), (u0, l0), (u1, l1), (u2, l2), (u3, l3)] := by
  match i, hi with
  | 0, _ => exact ⟨_, _, _, rfl, rfl, rfl, by simp, by simp⟩
  | 1, _ => exact ⟨_, _, _, rfl, rfl, rfl, by simp, by simp⟩
  | 2, _ => exact ⟨_, _, _, rfl, rfl, rfl, by simp, by simp⟩
  | 3, _ => exact ⟨_, _, _, rfl, rfl, rfl, by simp, by simp⟩
end
set_option maxRecDepth 100000 in
set_option maxHeartbeats 4000000 in
theorem same_any (k mode m0 m1 m2 m3 x y : Int) (lv v0 v1 v2 v3 lu u0 u1 u2 u3 : Value) (L l0 l1 l2 l3 : List Int) (w : World)
    (hn : ∀ p ∈ [(lv, L), (v0, l0), (v1, l1), (v2, l2), (v3, l3), (lu, L), (u0, l0), (u1, l1), (u2, l2), (u3, l3)], Nums w p.1 p.2) (hl : ∀ l ∈ [L, l0, l1, l2, l3], l.length ≤ 1000000) :
    Calls Tryd.prog 20 #[sqV k mode m0 m1 m2 m3 x y lv v0 v1 v2 v3, sqV k mode m0 m1 m2 m3 x y lu u0 u1 u2 u3] w fun e w' => e = .returned (.bool true) ∧ Below w.heap.size w w' := by
  unfold sqV
  have hb2 : Below w.heap.size w ((w.alloc (.cells #[.int .i64 k, .int .i64 mode, .int .i64 m0, .int .i64 m1, .int .i64 m2, .int .i64 m3, .int .i64 x, .int .i64 y, lv, v0, v1, v2, v3] 60)).alloc (.cells #[.int .i64 k, .int .i64 mode, .int .i64 m0, .int .i64 m1, .int .i64 m2, .int .i64 m3, .int .i64 x, .int .i64 y, lu, u0, u1, u2, u3] 64)) := ((Below.refl _ _).alloc (Nat.le_refl _) _).alloc (by simp) _
  have X0 := hid (show SM w k mode m0 m1 m2 m3 x y lv v0 v1 v2 v3 lu u0 u1 u2 u3 L l0 l1 l2 l3 ((w.alloc (.cells #[.int .i64 k, .int .i64 mode, .int .i64 m0, .int .i64 m1, .int .i64 m2, .int .i64 m3, .int .i64 x, .int .i64 y, lv, v0, v1, v2, v3] 60)).alloc (.cells #[.int .i64 k, .int .i64 mode, .int .i64 m0, .int .i64 m1, .int .i64 m2, .int .i64 m3, .int .i64 x, .int .i64 y, lu, u0, u1, u2, u3] 64)) from
    ⟨hb2, SqBlk.of ((Blk.new _ _ _).alloc _) rfl, SqBlk.of (Blk.newAt' _ _ _ (by simp)) rfl, fun p hp => (hn p hp).below hb2⟩)
  have HL := hid hl
  clear hb2 hn hl
  go_enter Tryd.func20, Tryd.ntmps20
  go_wp2_with fail
  generalize ((w.alloc _).alloc _ : World) = w1 at *
  go_loopg [5] 4 (fun j iv wr => ∃ i : Nat, i + j = 4 ∧ iv = .int .i64 i ∧ SM w k mode m0 m1 m2 m3 x y lv v0 v1 v2 v3 lu u0 u1 u2 u3 L l0 l1 l2 l3 wr)
  case atStart => exact ⟨0, by omega, rfl, X0.out⟩
  case round =>
    obtain ⟨i, hij, rfl, hx⟩ := hrel
    have X := hid hx
    rcases (show i < 4 ∨ i = 4 by omega) with hi | rfl
    · have hk0 : (0 : Int) ≤ (i : Int) := by omega
      have hk4 : (i : Int) < 4 := by omega
      have hd4 : decide ((i : Int) < 4) = true := by simp; omega
      obtain ⟨v, u, l, hv, hu, hll, hmv, hmu⟩ := hx.nth i hi
      obtain ⟨m, hm⟩ : ∃ m, m = [m0, m1, m2, m3].getD i 0 := ⟨_, rfl⟩
      have hcells : ∀ W, SM w k mode m0 m1 m2 m3 x y lv v0 v1 v2 v3 lu u0 u1 u2 u3 L l0 l1 l2 l3 W → W.cell? ⟨w.heap.size, 2 + i, none⟩ = some (.int .i64 m) ∧ W.cell? ⟨w.heap.size + 1, 2 + i, none⟩ = some (.int .i64 m) ∧ W.cell? ⟨w.heap.size, 9 + i, none⟩ = some v ∧ W.cell? ⟨w.heap.size + 1, 9 + i, none⟩ = some u := fun W h =>
        ⟨by rw [h.a.cm i hi, ← hm], by rw [h.b.cm i hi, ← hm], by rw [h.a.cs i hi, hv], by rw [h.b.cs i hi, hu]⟩
      have hlen : l.length ≤ 1000000 := by
        refine HL.out l ?_
        rw [← hll]
        match i, hi with
        | 0, _ => simp
        | 1, _ => simp
        | 2, _ => simp
        | 3, _ => simp
      have MM := hid (And.intro hmv (And.intro hmu hlen))
      have HCL := hid hcells
      have XD := hid (hx.below (Below.refl wr.heap.size wr).drew)
      have IJ := hid (And.intro hij hi)
      obtain ⟨c0, c1, cc2, cc3⟩ := hcells _ hx
      have kd := hcells _ XD.out
      have k0 := hcells _ hx
      clear hcells hlen hmv hmu hll hv hu hij hi hx hm
      have hne : (m != m) = false := by simp
      go_wp2_with fail
      go_region_held_law (fun W => W.cell? ⟨w.heap.size, 2 + i, none⟩ = some (.int .i64 m) ∧ W.cell? ⟨w.heap.size + 1, 2 + i, none⟩ = some (.int .i64 m) ∧ W.cell? ⟨w.heap.size, 9 + i, none⟩ = some v ∧ W.cell? ⟨w.heap.size + 1, 9 + i, none⟩ = some u) (first | exact k1 | exact k0 | exact kd)
        (first
          | (go_at_call 43
             refine (ints_same v u l _ (by exact XD.out.ns (v, l) MM.out.1) (by exact XD.out.ns (u, l) MM.out.2.1) MM.out.2.2).mono ?_
             rintro e w3 ⟨rfl, hb⟩
             have X3 := hid (XD.out.below hb)
             have k1 := HCL.out _ X3.out
             clear hb))
      go_wp2_with fail
      go_roundg (gk - 1)
      case measure => have := IJ.out; omega
      case rel => exact ⟨i + 1, by have := IJ.out; omega, by go_num, X3.out⟩
    · obtain ⟨⟨q0, q1⟩, ⟨q2, q3, q4, q5⟩, ⟨q6, q7, q8⟩, q9, q10, q11, q12⟩ := hx.a.all4
      obtain ⟨⟨r0, r1⟩, ⟨r2, r3, r4, r5⟩, ⟨r6, r7, r8⟩, r9, r10, r11, r12⟩ := hx.b.all4
      clear hx hij
      go_wp2_with fail
      refine (ints_same lv lu L _ (by exact X.out.ns (lv, L) (by simp)) (by exact X.out.ns (lu, L) (by simp)) (HL.out L (by simp))).mono ?_
      rintro e w3 ⟨rfl, hb⟩
      have X3 := hid (X.out.below hb)
      clear hb q0 q1 q2 q3 q4 q5 q6 q7 q8 q9 q10 q11 q12 r0 r1 r2 r3 r4 r5 r6 r7 r8 r9 r10 r11 r12
      go_wp2_with fail
      go_ret
      exact ⟨rfl, X3.out.bel⟩
end Go.Proofs.YtkkgpdejmcpcpaaDoor

/- Chapter 20: kinlaw20.Plain, parts. -/
namespace Go.Proofs.YtkkgpdejmcpcpaaDoor
open Go.RowKit

set_option maxRecDepth 100000 in
set_option maxHeartbeats 2000000 in
theorem plain20 (k mode m0 m1 m2 m3 x y : Int) (A A0 A1 A2 A3 : Option Addr) (n n0 n1 n2 n3 c c0 c1 c2 c3 : Nat) (w : World) :
    Calls Tryd.prog 22 #[sqV k mode m0 m1 m2 m3 x y (.slice A n c) (.slice A0 n0 c0) (.slice A1 n1 c1) (.slice A2 n2 c2) (.slice A3 n3 c3)] w fun e w' => e = .returned (sqV k mode m0 m1 m2 m3 x y (.slice A n c) (.slice A0 n0 c0) (.slice A1 n1 c1) (.slice A2 n2 c2) (.slice A3 n3 c3)) ∧ Below w.heap.size w w' := by
  unfold sqV
  go_enter Tryd.func22, Tryd.ntmps22
  go_wp2_with fail
  exact bodyPost_ret (v := .agg #[.int .i64 k, .int .i64 mode, .int .i64 m0, .int .i64 m1, .int .i64 m2, .int .i64 m3, .int .i64 x, .int .i64 y, .slice A n c, .slice A0 n0 c0, .slice A1 n1 c1, .slice A2 n2 c2, .slice A3 n3 c3]) (by simp [results, Tryd.results22, go_sem]) rfl ⟨rfl, ((Below.refl _ _).alloc (Nat.le_refl _) _).alloc (by simp) _⟩
/-- The parts of a square's kind, as a value. -/
def partsV (k mode m0 m1 m2 m3 x y : Int) (lv v0 v1 v2 v3 : Value) : Value :=
  if k = 1 then sqV 1 0 0 0 0 0 x y lv nilS nilS nilS nilS else if k = 2 then sqV 2 mode 0 0 0 0 0 0 lv nilS nilS nilS nilS else if k = 3 then sqV 3 0 m0 m1 m2 m3 0 0 nilS v0 v1 v2 v3 else sqV k 0 0 0 0 0 0 0 nilS nilS nilS nilS nilS
theorem SqBlk.drew {W : World} {ob : Nat} {ty : TypeId} {k mode x y : Int} {ms : List Int} {lv : Value} {vs : List Value} (h : SqBlk W ob ty k mode ms x y lv vs) : SqBlk W.drew ob ty k mode ms x y lv vs := h
set_option maxRecDepth 100000 in
set_option maxHeartbeats 8000000 in
theorem parts20 (k mode m0 m1 m2 m3 x y : Int) (A A0 A1 A2 A3 : Option Addr) (n n0 n1 n2 n3 c c0 c1 c2 c3 : Nat) (w : World) (hk : k = 0 ∨ k = 1 ∨ k = 2 ∨ k = 3) :
    Calls Tryd.prog 21 #[sqV k mode m0 m1 m2 m3 x y (.slice A n c) (.slice A0 n0 c0) (.slice A1 n1 c1) (.slice A2 n2 c2) (.slice A3 n3 c3)] w fun e w' => e = .returned (partsV k mode m0 m1 m2 m3 x y (.slice A n c) (.slice A0 n0 c0) (.slice A1 n1 c1) (.slice A2 n2 c2) (.slice A3 n3 c3)) ∧ Below w.heap.size w w' := by
  rcases hk with rfl | rfl | rfl | rfl
  · unfold sqV partsV
    go_enter Tryd.func21, Tryd.ntmps21
    go_wp2_with fail
    exact bodyPost_ret (v := sqV 0 0 0 0 0 0 0 0 nilS nilS nilS nilS nilS) (by simp [sqV, results, Tryd.results21, go_sem]) rfl ⟨rfl, (((Below.refl _ _).alloc (Nat.le_refl _) _).alloc (by simp) _).alloc (by simp; omega) _⟩
  · have hb3 : Below w.heap.size w (((w.alloc (.cells #[.int .i64 1, .int .i64 mode, .int .i64 m0, .int .i64 m1, .int .i64 m2, .int .i64 m3, .int .i64 x, .int .i64 y, .slice A n c, .slice A0 n0 c0, .slice A1 n1 c1, .slice A2 n2 c2, .slice A3 n3 c3] 60)).alloc (.cells #[.int .i64 0, .int .i64 0, .int .i64 0, .int .i64 0, .int .i64 0, .int .i64 0, .int .i64 0, .int .i64 0, nilS, nilS, nilS, nilS, nilS] 64)).alloc (.cells #[.int .i64 1, .int .i64 0, .int .i64 0, .int .i64 0, .int .i64 0, .int .i64 0, .int .i64 0, .int .i64 0, nilS, nilS, nilS, nilS, nilS] 64)) := (((Below.refl _ _).alloc (Nat.le_refl _) _).alloc (by simp) _).alloc (by simp; omega) _
    have E1 := hid hb3
    have B1 := hid (show SqBlk (((w.alloc (.cells #[.int .i64 1, .int .i64 mode, .int .i64 m0, .int .i64 m1, .int .i64 m2, .int .i64 m3, .int .i64 x, .int .i64 y, .slice A n c, .slice A0 n0 c0, .slice A1 n1 c1, .slice A2 n2 c2, .slice A3 n3 c3] 60)).alloc (.cells #[.int .i64 0, .int .i64 0, .int .i64 0, .int .i64 0, .int .i64 0, .int .i64 0, .int .i64 0, .int .i64 0, nilS, nilS, nilS, nilS, nilS] 64)).alloc (.cells #[.int .i64 1, .int .i64 0, .int .i64 0, .int .i64 0, .int .i64 0, .int .i64 0, .int .i64 0, .int .i64 0, nilS, nilS, nilS, nilS, nilS] 64)) w.heap.size 60 1 mode [m0, m1, m2, m3] x y (.slice A n c) [.slice A0 n0 c0, .slice A1 n1 c1, .slice A2 n2 c2, .slice A3 n3 c3] from SqBlk.of (((Blk.new _ _ _).alloc _).alloc _) rfl)
    have R1 := hid (show SqBlk (((w.alloc (.cells #[.int .i64 1, .int .i64 mode, .int .i64 m0, .int .i64 m1, .int .i64 m2, .int .i64 m3, .int .i64 x, .int .i64 y, .slice A n c, .slice A0 n0 c0, .slice A1 n1 c1, .slice A2 n2 c2, .slice A3 n3 c3] 60)).alloc (.cells #[.int .i64 0, .int .i64 0, .int .i64 0, .int .i64 0, .int .i64 0, .int .i64 0, .int .i64 0, .int .i64 0, nilS, nilS, nilS, nilS, nilS] 64)).alloc (.cells #[.int .i64 1, .int .i64 0, .int .i64 0, .int .i64 0, .int .i64 0, .int .i64 0, .int .i64 0, .int .i64 0, nilS, nilS, nilS, nilS, nilS] 64)) (w.heap.size + 1) 64 0 0 [] 0 0 nilS [] from SqBlk.new ((Blk.newAt' _ _ _ (by simp)).alloc _) rfl)
    have T1 := hid (show SqBlk (((w.alloc (.cells #[.int .i64 1, .int .i64 mode, .int .i64 m0, .int .i64 m1, .int .i64 m2, .int .i64 m3, .int .i64 x, .int .i64 y, .slice A n c, .slice A0 n0 c0, .slice A1 n1 c1, .slice A2 n2 c2, .slice A3 n3 c3] 60)).alloc (.cells #[.int .i64 0, .int .i64 0, .int .i64 0, .int .i64 0, .int .i64 0, .int .i64 0, .int .i64 0, .int .i64 0, nilS, nilS, nilS, nilS, nilS] 64)).alloc (.cells #[.int .i64 1, .int .i64 0, .int .i64 0, .int .i64 0, .int .i64 0, .int .i64 0, .int .i64 0, .int .i64 0, nilS, nilS, nilS, nilS, nilS] 64)) (w.heap.size + 1 + 1) 64 1 0 [] 0 0 nilS [] from (SqBlk.of (m0 := 0) (m1 := 0) (m2 := 0) (m3 := 0) (v0 := nilS) (v1 := nilS) (v2 := nilS) (v3 := nilS) (Blk.newAt' _ _ _ (by simp)) rfl).getD4 (fun j _ => (getD_zero4 0 j).symm) (fun j _ => (getD_zero4 nilS j).symm))
    clear hb3
    unfold sqV partsV
    go_enter Tryd.func21, Tryd.ntmps21
    go_wp2_with fail
    generalize (((w.alloc _).alloc _).alloc _ : World) = w1 at *
    have hcells : ∀ W, SqBlk W w.heap.size 60 1 mode [m0, m1, m2, m3] x y (.slice A n c) [.slice A0 n0 c0, .slice A1 n1 c1, .slice A2 n2 c2, .slice A3 n3 c3] → W.cell? ⟨w.heap.size, 6, none⟩ = some (.int .i64 x) ∧ W.cell? ⟨w.heap.size, 7, none⟩ = some (.int .i64 y) ∧ W.cell? ⟨w.heap.size, 8, none⟩ = some (.slice A n c) := by
      intro W h
      obtain ⟨⟨q0, q1⟩, ⟨q2, q3, q4, q5⟩, ⟨q6, q7, q8⟩, q9, q10, q11, q12⟩ := h.all4
      exact ⟨q6, q7, q8⟩
    have HC := hid hcells
    have n13 : w.heap.size ≠ w.heap.size + 1 + 1 := by omega
    have n23 : w.heap.size + 1 ≠ w.heap.size + 1 + 1 := by omega
    have l3 : w.heap.size ≤ w.heap.size + 1 + 1 := by omega
    have k0 := hcells _ B1.out
    have k0d := hcells _ B1.out.drew
    have kf0 := HC.out _ (B1.out.far (p := ⟨w.heap.size + 1 + 1, 6, none⟩) n13 (.int .i64 x)).drew
    have kg0 := HC.out _ (B1.out.far (p := ⟨w.heap.size + 1 + 1, 6, none⟩) n13 (.int .i64 x))
    have kf1 := HC.out _ ((B1.out.far (p := ⟨w.heap.size + 1 + 1, 6, none⟩) n13 (.int .i64 x)).far (p := ⟨w.heap.size + 1 + 1, 7, none⟩) n13 (.int .i64 y)).drew
    have kg1 := HC.out _ ((B1.out.far (p := ⟨w.heap.size + 1 + 1, 6, none⟩) n13 (.int .i64 x)).far (p := ⟨w.heap.size + 1 + 1, 7, none⟩) n13 (.int .i64 y))
    have kf2 := HC.out _ (((B1.out.far (p := ⟨w.heap.size + 1 + 1, 6, none⟩) n13 (.int .i64 x)).far (p := ⟨w.heap.size + 1 + 1, 7, none⟩) n13 (.int .i64 y)).far (p := ⟨w.heap.size + 1 + 1, 8, none⟩) n13 (.slice A n c)).drew
    have kg2 := HC.out _ (((B1.out.far (p := ⟨w.heap.size + 1 + 1, 6, none⟩) n13 (.int .i64 x)).far (p := ⟨w.heap.size + 1 + 1, 7, none⟩) n13 (.int .i64 y)).far (p := ⟨w.heap.size + 1 + 1, 8, none⟩) n13 (.slice A n c))
    have tc : (∀ i, i < 13 → w1.frozen? ⟨w.heap.size + 1 + 1, i, none⟩ = false) := fun i _ => T1.out.frozen i
    obtain ⟨⟨t0, t1⟩, ⟨t2, t3, t4, t5⟩, ⟨t6, t7, t8⟩, t9, t10, t11, t12⟩ := T1.out.all4'
    have tf6 := tc 6 (by omega)
    have tf7 := tc 7 (by omega)
    have tf8 := tc 8 (by omega)
    clear hcells tc
    go_region_held_law (fun W => W.cell? ⟨w.heap.size, 6, none⟩ = some (.int .i64 x) ∧ W.cell? ⟨w.heap.size, 7, none⟩ = some (.int .i64 y) ∧ W.cell? ⟨w.heap.size, 8, none⟩ = some (.slice A n c)) (with_reducible first | exact k0d | exact k0 | exact kf0 | exact kg0 | exact kf1 | exact kg1 | exact kf2 | exact kg2) (fail)
    clear k0 k0d kf0 kg0 kf1 kg1 kf2 kg2 t0 t1 t2 t3 t4 t5 t6 t7 t8 t9 t10 t11 t12 tf6 tf7 tf8
    have T2 : SqBlk (((w1.setCell ⟨w.heap.size + 1 + 1, 6, none⟩ (.int .i64 x)).setCell ⟨w.heap.size + 1 + 1, 7, none⟩ (.int .i64 y)).setCell ⟨w.heap.size + 1 + 1, 8, none⟩ (.slice A n c)).drew (w.heap.size + 1 + 1) 64 1 0 [] x y (.slice A n c) [] := (((T1.out.put6 x).put7 y).put8 (.slice A n c)).drew
    have R2 : SqBlk (((w1.setCell ⟨w.heap.size + 1 + 1, 6, none⟩ (.int .i64 x)).setCell ⟨w.heap.size + 1 + 1, 7, none⟩ (.int .i64 y)).setCell ⟨w.heap.size + 1 + 1, 8, none⟩ (.slice A n c)).drew (w.heap.size + 1) 64 0 0 [] 0 0 nilS [] := (((R1.out.far (p := ⟨w.heap.size + 1 + 1, 6, none⟩) n23 (.int .i64 x)).far (p := ⟨w.heap.size + 1 + 1, 7, none⟩) n23 (.int .i64 y)).far (p := ⟨w.heap.size + 1 + 1, 8, none⟩) n23 (.slice A n c)).drew
    have E2 := hid (show Below w.heap.size w (((w1.setCell ⟨w.heap.size + 1 + 1, 6, none⟩ (.int .i64 x)).setCell ⟨w.heap.size + 1 + 1, 7, none⟩ (.int .i64 y)).setCell ⟨w.heap.size + 1 + 1, 8, none⟩ (.slice A n c)).drew from (((E1.out.setCell (p := ⟨w.heap.size + 1 + 1, 6, none⟩) l3 (.int .i64 x)).setCell (p := ⟨w.heap.size + 1 + 1, 7, none⟩) l3 (.int .i64 y)).setCell (p := ⟨w.heap.size + 1 + 1, 8, none⟩) l3 (.slice A n c)).drew)
    generalize (((w1.setCell ⟨w.heap.size + 1 + 1, 6, none⟩ (.int .i64 x)).setCell ⟨w.heap.size + 1 + 1, 7, none⟩ (.int .i64 y)).setCell ⟨w.heap.size + 1 + 1, 8, none⟩ (.slice A n c)).drew = w2 at *
    obtain ⟨⟨q0, q1⟩, ⟨q2, q3, q4, q5⟩, ⟨q6, q7, q8⟩, q9, q10, q11, q12⟩ := T2.all4'
    obtain ⟨⟨r0, r1⟩, ⟨r2, r3, r4, r5⟩, ⟨r6, r7, r8⟩, r9, r10, r11, r12⟩ := R2.all4'
    have f0 := R2.frozen 0
    have f1 := R2.frozen 1
    have f2 := R2.frozen 2
    have f3 := R2.frozen 3
    have f4 := R2.frozen 4
    have f5 := R2.frozen 5
    have f6 := R2.frozen 6
    have f7 := R2.frozen 7
    have f8 := R2.frozen 8
    have f9 := R2.frozen 9
    have f10 := R2.frozen 10
    have f11 := R2.frozen 11
    have f12 := R2.frozen 12
    have hz := R2.set13 1 0 0 0 0 0 x y (.slice A n c) nilS nilS nilS nilS
    have HZ := hid hz
    have ho := hid (only13 w2 (w.heap.size + 1) 1 0 0 0 0 0 x y (.slice A n c) nilS nilS nilS nilS)
    clear hz T2 R2 n13 n23 l3 HC
    go_wp2_with fail
    obtain ⟨⟨z0, z1⟩, ⟨z2, z3, z4, z5⟩, ⟨z6, z7, z8⟩, z9, z10, z11, z12⟩ := HZ.out.all4
    exact bodyPost_ret (v := sqV 1 0 0 0 0 0 x y (.slice A n c) nilS nilS nilS nilS) (by simp [sqV, results, Tryd.results21, go_sem, z0, z1, z2, z3, z4, z5, z6, z7, z8, z9, z10, z11, z12]) rfl ⟨by simp [sqV], E2.out.trans ⟨ho.out.os, ho.out.tape, ho.out.output, ho.out.size, fun j hj => ho.out.block j (by have := E2.out.size; omega) (by omega)⟩⟩
  · have hb3 : Below w.heap.size w (((w.alloc (.cells #[.int .i64 2, .int .i64 mode, .int .i64 m0, .int .i64 m1, .int .i64 m2, .int .i64 m3, .int .i64 x, .int .i64 y, .slice A n c, .slice A0 n0 c0, .slice A1 n1 c1, .slice A2 n2 c2, .slice A3 n3 c3] 60)).alloc (.cells #[.int .i64 0, .int .i64 0, .int .i64 0, .int .i64 0, .int .i64 0, .int .i64 0, .int .i64 0, .int .i64 0, nilS, nilS, nilS, nilS, nilS] 64)).alloc (.cells #[.int .i64 2, .int .i64 0, .int .i64 0, .int .i64 0, .int .i64 0, .int .i64 0, .int .i64 0, .int .i64 0, nilS, nilS, nilS, nilS, nilS] 64)) := (((Below.refl _ _).alloc (Nat.le_refl _) _).alloc (by simp) _).alloc (by simp; omega) _
    have E1 := hid hb3
    have B1 := hid (show SqBlk (((w.alloc (.cells #[.int .i64 2, .int .i64 mode, .int .i64 m0, .int .i64 m1, .int .i64 m2, .int .i64 m3, .int .i64 x, .int .i64 y, .slice A n c, .slice A0 n0 c0, .slice A1 n1 c1, .slice A2 n2 c2, .slice A3 n3 c3] 60)).alloc (.cells #[.int .i64 0, .int .i64 0, .int .i64 0, .int .i64 0, .int .i64 0, .int .i64 0, .int .i64 0, .int .i64 0, nilS, nilS, nilS, nilS, nilS] 64)).alloc (.cells #[.int .i64 2, .int .i64 0, .int .i64 0, .int .i64 0, .int .i64 0, .int .i64 0, .int .i64 0, .int .i64 0, nilS, nilS, nilS, nilS, nilS] 64)) w.heap.size 60 2 mode [m0, m1, m2, m3] x y (.slice A n c) [.slice A0 n0 c0, .slice A1 n1 c1, .slice A2 n2 c2, .slice A3 n3 c3] from SqBlk.of (((Blk.new _ _ _).alloc _).alloc _) rfl)
    have R1 := hid (show SqBlk (((w.alloc (.cells #[.int .i64 2, .int .i64 mode, .int .i64 m0, .int .i64 m1, .int .i64 m2, .int .i64 m3, .int .i64 x, .int .i64 y, .slice A n c, .slice A0 n0 c0, .slice A1 n1 c1, .slice A2 n2 c2, .slice A3 n3 c3] 60)).alloc (.cells #[.int .i64 0, .int .i64 0, .int .i64 0, .int .i64 0, .int .i64 0, .int .i64 0, .int .i64 0, .int .i64 0, nilS, nilS, nilS, nilS, nilS] 64)).alloc (.cells #[.int .i64 2, .int .i64 0, .int .i64 0, .int .i64 0, .int .i64 0, .int .i64 0, .int .i64 0, .int .i64 0, nilS, nilS, nilS, nilS, nilS] 64)) (w.heap.size + 1) 64 0 0 [] 0 0 nilS [] from SqBlk.new ((Blk.newAt' _ _ _ (by simp)).alloc _) rfl)
    have T1 := hid (show SqBlk (((w.alloc (.cells #[.int .i64 2, .int .i64 mode, .int .i64 m0, .int .i64 m1, .int .i64 m2, .int .i64 m3, .int .i64 x, .int .i64 y, .slice A n c, .slice A0 n0 c0, .slice A1 n1 c1, .slice A2 n2 c2, .slice A3 n3 c3] 60)).alloc (.cells #[.int .i64 0, .int .i64 0, .int .i64 0, .int .i64 0, .int .i64 0, .int .i64 0, .int .i64 0, .int .i64 0, nilS, nilS, nilS, nilS, nilS] 64)).alloc (.cells #[.int .i64 2, .int .i64 0, .int .i64 0, .int .i64 0, .int .i64 0, .int .i64 0, .int .i64 0, .int .i64 0, nilS, nilS, nilS, nilS, nilS] 64)) (w.heap.size + 1 + 1) 64 2 0 [] 0 0 nilS [] from (SqBlk.of (m0 := 0) (m1 := 0) (m2 := 0) (m3 := 0) (v0 := nilS) (v1 := nilS) (v2 := nilS) (v3 := nilS) (Blk.newAt' _ _ _ (by simp)) rfl).getD4 (fun j _ => (getD_zero4 0 j).symm) (fun j _ => (getD_zero4 nilS j).symm))
    clear hb3
    unfold sqV partsV
    go_enter Tryd.func21, Tryd.ntmps21
    go_wp2_with fail
    generalize (((w.alloc _).alloc _).alloc _ : World) = w1 at *
    have hcells : ∀ W, SqBlk W w.heap.size 60 2 mode [m0, m1, m2, m3] x y (.slice A n c) [.slice A0 n0 c0, .slice A1 n1 c1, .slice A2 n2 c2, .slice A3 n3 c3] → W.cell? ⟨w.heap.size, 1, none⟩ = some (.int .i64 mode) ∧ W.cell? ⟨w.heap.size, 8, none⟩ = some (.slice A n c) := by
      intro W h
      obtain ⟨⟨q0, q1⟩, ⟨q2, q3, q4, q5⟩, ⟨q6, q7, q8⟩, q9, q10, q11, q12⟩ := h.all4
      exact ⟨q1, q8⟩
    have HC := hid hcells
    have n13 : w.heap.size ≠ w.heap.size + 1 + 1 := by omega
    have n23 : w.heap.size + 1 ≠ w.heap.size + 1 + 1 := by omega
    have l3 : w.heap.size ≤ w.heap.size + 1 + 1 := by omega
    have k0 := hcells _ B1.out
    have k0d := hcells _ B1.out.drew
    have kf0 := HC.out _ (B1.out.far (p := ⟨w.heap.size + 1 + 1, 1, none⟩) n13 (.int .i64 mode)).drew
    have kg0 := HC.out _ (B1.out.far (p := ⟨w.heap.size + 1 + 1, 1, none⟩) n13 (.int .i64 mode))
    have kf1 := HC.out _ ((B1.out.far (p := ⟨w.heap.size + 1 + 1, 1, none⟩) n13 (.int .i64 mode)).far (p := ⟨w.heap.size + 1 + 1, 8, none⟩) n13 (.slice A n c)).drew
    have kg1 := HC.out _ ((B1.out.far (p := ⟨w.heap.size + 1 + 1, 1, none⟩) n13 (.int .i64 mode)).far (p := ⟨w.heap.size + 1 + 1, 8, none⟩) n13 (.slice A n c))
    have tc : (∀ i, i < 13 → w1.frozen? ⟨w.heap.size + 1 + 1, i, none⟩ = false) := fun i _ => T1.out.frozen i
    obtain ⟨⟨t0, t1⟩, ⟨t2, t3, t4, t5⟩, ⟨t6, t7, t8⟩, t9, t10, t11, t12⟩ := T1.out.all4'
    have tf1 := tc 1 (by omega)
    have tf8 := tc 8 (by omega)
    clear hcells tc
    go_region_held_law (fun W => W.cell? ⟨w.heap.size, 1, none⟩ = some (.int .i64 mode) ∧ W.cell? ⟨w.heap.size, 8, none⟩ = some (.slice A n c)) (with_reducible first | exact k0d | exact k0 | exact kf0 | exact kg0 | exact kf1 | exact kg1) (fail)
    clear k0 k0d kf0 kg0 kf1 kg1 t0 t1 t2 t3 t4 t5 t6 t7 t8 t9 t10 t11 t12 tf1 tf8
    have T2 : SqBlk ((w1.setCell ⟨w.heap.size + 1 + 1, 1, none⟩ (.int .i64 mode)).setCell ⟨w.heap.size + 1 + 1, 8, none⟩ (.slice A n c)).drew (w.heap.size + 1 + 1) 64 2 mode [] 0 0 (.slice A n c) [] := ((T1.out.put1 mode).put8 (.slice A n c)).drew
    have R2 : SqBlk ((w1.setCell ⟨w.heap.size + 1 + 1, 1, none⟩ (.int .i64 mode)).setCell ⟨w.heap.size + 1 + 1, 8, none⟩ (.slice A n c)).drew (w.heap.size + 1) 64 0 0 [] 0 0 nilS [] := ((R1.out.far (p := ⟨w.heap.size + 1 + 1, 1, none⟩) n23 (.int .i64 mode)).far (p := ⟨w.heap.size + 1 + 1, 8, none⟩) n23 (.slice A n c)).drew
    have E2 := hid (show Below w.heap.size w ((w1.setCell ⟨w.heap.size + 1 + 1, 1, none⟩ (.int .i64 mode)).setCell ⟨w.heap.size + 1 + 1, 8, none⟩ (.slice A n c)).drew from ((E1.out.setCell (p := ⟨w.heap.size + 1 + 1, 1, none⟩) l3 (.int .i64 mode)).setCell (p := ⟨w.heap.size + 1 + 1, 8, none⟩) l3 (.slice A n c)).drew)
    generalize ((w1.setCell ⟨w.heap.size + 1 + 1, 1, none⟩ (.int .i64 mode)).setCell ⟨w.heap.size + 1 + 1, 8, none⟩ (.slice A n c)).drew = w2 at *
    obtain ⟨⟨q0, q1⟩, ⟨q2, q3, q4, q5⟩, ⟨q6, q7, q8⟩, q9, q10, q11, q12⟩ := T2.all4'
    obtain ⟨⟨r0, r1⟩, ⟨r2, r3, r4, r5⟩, ⟨r6, r7, r8⟩, r9, r10, r11, r12⟩ := R2.all4'
    have f0 := R2.frozen 0
    have f1 := R2.frozen 1
    have f2 := R2.frozen 2
    have f3 := R2.frozen 3
    have f4 := R2.frozen 4
    have f5 := R2.frozen 5
    have f6 := R2.frozen 6
    have f7 := R2.frozen 7
    have f8 := R2.frozen 8
    have f9 := R2.frozen 9
    have f10 := R2.frozen 10
    have f11 := R2.frozen 11
    have f12 := R2.frozen 12
    have hz := R2.set13 2 mode 0 0 0 0 0 0 (.slice A n c) nilS nilS nilS nilS
    have HZ := hid hz
    have ho := hid (only13 w2 (w.heap.size + 1) 2 mode 0 0 0 0 0 0 (.slice A n c) nilS nilS nilS nilS)
    clear hz T2 R2 n13 n23 l3 HC
    go_wp2_with fail
    obtain ⟨⟨z0, z1⟩, ⟨z2, z3, z4, z5⟩, ⟨z6, z7, z8⟩, z9, z10, z11, z12⟩ := HZ.out.all4
    exact bodyPost_ret (v := sqV 2 mode 0 0 0 0 0 0 (.slice A n c) nilS nilS nilS nilS) (by simp [sqV, results, Tryd.results21, go_sem, z0, z1, z2, z3, z4, z5, z6, z7, z8, z9, z10, z11, z12]) rfl ⟨by simp [sqV], E2.out.trans ⟨ho.out.os, ho.out.tape, ho.out.output, ho.out.size, fun j hj => ho.out.block j (by have := E2.out.size; omega) (by omega)⟩⟩
  · have hb3 : Below w.heap.size w (((w.alloc (.cells #[.int .i64 3, .int .i64 mode, .int .i64 m0, .int .i64 m1, .int .i64 m2, .int .i64 m3, .int .i64 x, .int .i64 y, .slice A n c, .slice A0 n0 c0, .slice A1 n1 c1, .slice A2 n2 c2, .slice A3 n3 c3] 60)).alloc (.cells #[.int .i64 0, .int .i64 0, .int .i64 0, .int .i64 0, .int .i64 0, .int .i64 0, .int .i64 0, .int .i64 0, nilS, nilS, nilS, nilS, nilS] 64)).alloc (.cells #[.int .i64 3, .int .i64 0, .int .i64 0, .int .i64 0, .int .i64 0, .int .i64 0, .int .i64 0, .int .i64 0, nilS, nilS, nilS, nilS, nilS] 64)) := (((Below.refl _ _).alloc (Nat.le_refl _) _).alloc (by simp) _).alloc (by simp; omega) _
    have E1 := hid hb3
    have B1 := hid (show SqBlk (((w.alloc (.cells #[.int .i64 3, .int .i64 mode, .int .i64 m0, .int .i64 m1, .int .i64 m2, .int .i64 m3, .int .i64 x, .int .i64 y, .slice A n c, .slice A0 n0 c0, .slice A1 n1 c1, .slice A2 n2 c2, .slice A3 n3 c3] 60)).alloc (.cells #[.int .i64 0, .int .i64 0, .int .i64 0, .int .i64 0, .int .i64 0, .int .i64 0, .int .i64 0, .int .i64 0, nilS, nilS, nilS, nilS, nilS] 64)).alloc (.cells #[.int .i64 3, .int .i64 0, .int .i64 0, .int .i64 0, .int .i64 0, .int .i64 0, .int .i64 0, .int .i64 0, nilS, nilS, nilS, nilS, nilS] 64)) w.heap.size 60 3 mode [m0, m1, m2, m3] x y (.slice A n c) [.slice A0 n0 c0, .slice A1 n1 c1, .slice A2 n2 c2, .slice A3 n3 c3] from SqBlk.of (((Blk.new _ _ _).alloc _).alloc _) rfl)
    have R1 := hid (show SqBlk (((w.alloc (.cells #[.int .i64 3, .int .i64 mode, .int .i64 m0, .int .i64 m1, .int .i64 m2, .int .i64 m3, .int .i64 x, .int .i64 y, .slice A n c, .slice A0 n0 c0, .slice A1 n1 c1, .slice A2 n2 c2, .slice A3 n3 c3] 60)).alloc (.cells #[.int .i64 0, .int .i64 0, .int .i64 0, .int .i64 0, .int .i64 0, .int .i64 0, .int .i64 0, .int .i64 0, nilS, nilS, nilS, nilS, nilS] 64)).alloc (.cells #[.int .i64 3, .int .i64 0, .int .i64 0, .int .i64 0, .int .i64 0, .int .i64 0, .int .i64 0, .int .i64 0, nilS, nilS, nilS, nilS, nilS] 64)) (w.heap.size + 1) 64 0 0 [] 0 0 nilS [] from SqBlk.new ((Blk.newAt' _ _ _ (by simp)).alloc _) rfl)
    have T1 := hid (show SqBlk (((w.alloc (.cells #[.int .i64 3, .int .i64 mode, .int .i64 m0, .int .i64 m1, .int .i64 m2, .int .i64 m3, .int .i64 x, .int .i64 y, .slice A n c, .slice A0 n0 c0, .slice A1 n1 c1, .slice A2 n2 c2, .slice A3 n3 c3] 60)).alloc (.cells #[.int .i64 0, .int .i64 0, .int .i64 0, .int .i64 0, .int .i64 0, .int .i64 0, .int .i64 0, .int .i64 0, nilS, nilS, nilS, nilS, nilS] 64)).alloc (.cells #[.int .i64 3, .int .i64 0, .int .i64 0, .int .i64 0, .int .i64 0, .int .i64 0, .int .i64 0, .int .i64 0, nilS, nilS, nilS, nilS, nilS] 64)) (w.heap.size + 1 + 1) 64 3 0 [] 0 0 nilS [] from (SqBlk.of (m0 := 0) (m1 := 0) (m2 := 0) (m3 := 0) (v0 := nilS) (v1 := nilS) (v2 := nilS) (v3 := nilS) (Blk.newAt' _ _ _ (by simp)) rfl).getD4 (fun j _ => (getD_zero4 0 j).symm) (fun j _ => (getD_zero4 nilS j).symm))
    clear hb3
    unfold sqV partsV
    go_enter Tryd.func21, Tryd.ntmps21
    go_wp2_with fail
    generalize (((w.alloc _).alloc _).alloc _ : World) = w1 at *
    have hcells : ∀ W, SqBlk W w.heap.size 60 3 mode [m0, m1, m2, m3] x y (.slice A n c) [.slice A0 n0 c0, .slice A1 n1 c1, .slice A2 n2 c2, .slice A3 n3 c3] → W.cell? ⟨w.heap.size, 2, none⟩ = some (.int .i64 m0) ∧ W.cell? ⟨w.heap.size, 3, none⟩ = some (.int .i64 m1) ∧ W.cell? ⟨w.heap.size, 4, none⟩ = some (.int .i64 m2) ∧ W.cell? ⟨w.heap.size, 5, none⟩ = some (.int .i64 m3) ∧ W.cell? ⟨w.heap.size, 9, none⟩ = some (.slice A0 n0 c0) ∧ W.cell? ⟨w.heap.size, 10, none⟩ = some (.slice A1 n1 c1) ∧ W.cell? ⟨w.heap.size, 11, none⟩ = some (.slice A2 n2 c2) ∧ W.cell? ⟨w.heap.size, 12, none⟩ = some (.slice A3 n3 c3) := by
      intro W h
      obtain ⟨⟨q0, q1⟩, ⟨q2, q3, q4, q5⟩, ⟨q6, q7, q8⟩, q9, q10, q11, q12⟩ := h.all4
      exact ⟨q2, q3, q4, q5, q9, q10, q11, q12⟩
    have HC := hid hcells
    have n13 : w.heap.size ≠ w.heap.size + 1 + 1 := by omega
    have n23 : w.heap.size + 1 ≠ w.heap.size + 1 + 1 := by omega
    have l3 : w.heap.size ≤ w.heap.size + 1 + 1 := by omega
    have k0 := hcells _ B1.out
    have k0d := hcells _ B1.out.drew
    have kf0 := HC.out _ (B1.out.far (p := ⟨w.heap.size + 1 + 1, 2, none⟩) n13 (.int .i64 m0)).drew
    have kg0 := HC.out _ (B1.out.far (p := ⟨w.heap.size + 1 + 1, 2, none⟩) n13 (.int .i64 m0))
    have kf1 := HC.out _ ((B1.out.far (p := ⟨w.heap.size + 1 + 1, 2, none⟩) n13 (.int .i64 m0)).far (p := ⟨w.heap.size + 1 + 1, 3, none⟩) n13 (.int .i64 m1)).drew
    have kg1 := HC.out _ ((B1.out.far (p := ⟨w.heap.size + 1 + 1, 2, none⟩) n13 (.int .i64 m0)).far (p := ⟨w.heap.size + 1 + 1, 3, none⟩) n13 (.int .i64 m1))
    have kf2 := HC.out _ (((B1.out.far (p := ⟨w.heap.size + 1 + 1, 2, none⟩) n13 (.int .i64 m0)).far (p := ⟨w.heap.size + 1 + 1, 3, none⟩) n13 (.int .i64 m1)).far (p := ⟨w.heap.size + 1 + 1, 4, none⟩) n13 (.int .i64 m2)).drew
    have kg2 := HC.out _ (((B1.out.far (p := ⟨w.heap.size + 1 + 1, 2, none⟩) n13 (.int .i64 m0)).far (p := ⟨w.heap.size + 1 + 1, 3, none⟩) n13 (.int .i64 m1)).far (p := ⟨w.heap.size + 1 + 1, 4, none⟩) n13 (.int .i64 m2))
    have kf3 := HC.out _ ((((B1.out.far (p := ⟨w.heap.size + 1 + 1, 2, none⟩) n13 (.int .i64 m0)).far (p := ⟨w.heap.size + 1 + 1, 3, none⟩) n13 (.int .i64 m1)).far (p := ⟨w.heap.size + 1 + 1, 4, none⟩) n13 (.int .i64 m2)).far (p := ⟨w.heap.size + 1 + 1, 5, none⟩) n13 (.int .i64 m3)).drew
    have kg3 := HC.out _ ((((B1.out.far (p := ⟨w.heap.size + 1 + 1, 2, none⟩) n13 (.int .i64 m0)).far (p := ⟨w.heap.size + 1 + 1, 3, none⟩) n13 (.int .i64 m1)).far (p := ⟨w.heap.size + 1 + 1, 4, none⟩) n13 (.int .i64 m2)).far (p := ⟨w.heap.size + 1 + 1, 5, none⟩) n13 (.int .i64 m3))
    have kf4 := HC.out _ (((((B1.out.far (p := ⟨w.heap.size + 1 + 1, 2, none⟩) n13 (.int .i64 m0)).far (p := ⟨w.heap.size + 1 + 1, 3, none⟩) n13 (.int .i64 m1)).far (p := ⟨w.heap.size + 1 + 1, 4, none⟩) n13 (.int .i64 m2)).far (p := ⟨w.heap.size + 1 + 1, 5, none⟩) n13 (.int .i64 m3)).far (p := ⟨w.heap.size + 1 + 1, 9, none⟩) n13 (.slice A0 n0 c0)).drew
    have kg4 := HC.out _ (((((B1.out.far (p := ⟨w.heap.size + 1 + 1, 2, none⟩) n13 (.int .i64 m0)).far (p := ⟨w.heap.size + 1 + 1, 3, none⟩) n13 (.int .i64 m1)).far (p := ⟨w.heap.size + 1 + 1, 4, none⟩) n13 (.int .i64 m2)).far (p := ⟨w.heap.size + 1 + 1, 5, none⟩) n13 (.int .i64 m3)).far (p := ⟨w.heap.size + 1 + 1, 9, none⟩) n13 (.slice A0 n0 c0))
    have kf5 := HC.out _ ((((((B1.out.far (p := ⟨w.heap.size + 1 + 1, 2, none⟩) n13 (.int .i64 m0)).far (p := ⟨w.heap.size + 1 + 1, 3, none⟩) n13 (.int .i64 m1)).far (p := ⟨w.heap.size + 1 + 1, 4, none⟩) n13 (.int .i64 m2)).far (p := ⟨w.heap.size + 1 + 1, 5, none⟩) n13 (.int .i64 m3)).far (p := ⟨w.heap.size + 1 + 1, 9, none⟩) n13 (.slice A0 n0 c0)).far (p := ⟨w.heap.size + 1 + 1, 10, none⟩) n13 (.slice A1 n1 c1)).drew
    have kg5 := HC.out _ ((((((B1.out.far (p := ⟨w.heap.size + 1 + 1, 2, none⟩) n13 (.int .i64 m0)).far (p := ⟨w.heap.size + 1 + 1, 3, none⟩) n13 (.int .i64 m1)).far (p := ⟨w.heap.size + 1 + 1, 4, none⟩) n13 (.int .i64 m2)).far (p := ⟨w.heap.size + 1 + 1, 5, none⟩) n13 (.int .i64 m3)).far (p := ⟨w.heap.size + 1 + 1, 9, none⟩) n13 (.slice A0 n0 c0)).far (p := ⟨w.heap.size + 1 + 1, 10, none⟩) n13 (.slice A1 n1 c1))
    have kf6 := HC.out _ (((((((B1.out.far (p := ⟨w.heap.size + 1 + 1, 2, none⟩) n13 (.int .i64 m0)).far (p := ⟨w.heap.size + 1 + 1, 3, none⟩) n13 (.int .i64 m1)).far (p := ⟨w.heap.size + 1 + 1, 4, none⟩) n13 (.int .i64 m2)).far (p := ⟨w.heap.size + 1 + 1, 5, none⟩) n13 (.int .i64 m3)).far (p := ⟨w.heap.size + 1 + 1, 9, none⟩) n13 (.slice A0 n0 c0)).far (p := ⟨w.heap.size + 1 + 1, 10, none⟩) n13 (.slice A1 n1 c1)).far (p := ⟨w.heap.size + 1 + 1, 11, none⟩) n13 (.slice A2 n2 c2)).drew
    have kg6 := HC.out _ (((((((B1.out.far (p := ⟨w.heap.size + 1 + 1, 2, none⟩) n13 (.int .i64 m0)).far (p := ⟨w.heap.size + 1 + 1, 3, none⟩) n13 (.int .i64 m1)).far (p := ⟨w.heap.size + 1 + 1, 4, none⟩) n13 (.int .i64 m2)).far (p := ⟨w.heap.size + 1 + 1, 5, none⟩) n13 (.int .i64 m3)).far (p := ⟨w.heap.size + 1 + 1, 9, none⟩) n13 (.slice A0 n0 c0)).far (p := ⟨w.heap.size + 1 + 1, 10, none⟩) n13 (.slice A1 n1 c1)).far (p := ⟨w.heap.size + 1 + 1, 11, none⟩) n13 (.slice A2 n2 c2))
    have kf7 := HC.out _ ((((((((B1.out.far (p := ⟨w.heap.size + 1 + 1, 2, none⟩) n13 (.int .i64 m0)).far (p := ⟨w.heap.size + 1 + 1, 3, none⟩) n13 (.int .i64 m1)).far (p := ⟨w.heap.size + 1 + 1, 4, none⟩) n13 (.int .i64 m2)).far (p := ⟨w.heap.size + 1 + 1, 5, none⟩) n13 (.int .i64 m3)).far (p := ⟨w.heap.size + 1 + 1, 9, none⟩) n13 (.slice A0 n0 c0)).far (p := ⟨w.heap.size + 1 + 1, 10, none⟩) n13 (.slice A1 n1 c1)).far (p := ⟨w.heap.size + 1 + 1, 11, none⟩) n13 (.slice A2 n2 c2)).far (p := ⟨w.heap.size + 1 + 1, 12, none⟩) n13 (.slice A3 n3 c3)).drew
    have kg7 := HC.out _ ((((((((B1.out.far (p := ⟨w.heap.size + 1 + 1, 2, none⟩) n13 (.int .i64 m0)).far (p := ⟨w.heap.size + 1 + 1, 3, none⟩) n13 (.int .i64 m1)).far (p := ⟨w.heap.size + 1 + 1, 4, none⟩) n13 (.int .i64 m2)).far (p := ⟨w.heap.size + 1 + 1, 5, none⟩) n13 (.int .i64 m3)).far (p := ⟨w.heap.size + 1 + 1, 9, none⟩) n13 (.slice A0 n0 c0)).far (p := ⟨w.heap.size + 1 + 1, 10, none⟩) n13 (.slice A1 n1 c1)).far (p := ⟨w.heap.size + 1 + 1, 11, none⟩) n13 (.slice A2 n2 c2)).far (p := ⟨w.heap.size + 1 + 1, 12, none⟩) n13 (.slice A3 n3 c3))
    have tc : (∀ i, i < 13 → w1.frozen? ⟨w.heap.size + 1 + 1, i, none⟩ = false) := fun i _ => T1.out.frozen i
    obtain ⟨⟨t0, t1⟩, ⟨t2, t3, t4, t5⟩, ⟨t6, t7, t8⟩, t9, t10, t11, t12⟩ := T1.out.all4'
    have tf2 := tc 2 (by omega)
    have tf3 := tc 3 (by omega)
    have tf4 := tc 4 (by omega)
    have tf5 := tc 5 (by omega)
    have tf9 := tc 9 (by omega)
    have tf10 := tc 10 (by omega)
    have tf11 := tc 11 (by omega)
    have tf12 := tc 12 (by omega)
    clear hcells tc
    go_region_held_law (fun W => W.cell? ⟨w.heap.size, 2, none⟩ = some (.int .i64 m0) ∧ W.cell? ⟨w.heap.size, 3, none⟩ = some (.int .i64 m1) ∧ W.cell? ⟨w.heap.size, 4, none⟩ = some (.int .i64 m2) ∧ W.cell? ⟨w.heap.size, 5, none⟩ = some (.int .i64 m3) ∧ W.cell? ⟨w.heap.size, 9, none⟩ = some (.slice A0 n0 c0) ∧ W.cell? ⟨w.heap.size, 10, none⟩ = some (.slice A1 n1 c1) ∧ W.cell? ⟨w.heap.size, 11, none⟩ = some (.slice A2 n2 c2) ∧ W.cell? ⟨w.heap.size, 12, none⟩ = some (.slice A3 n3 c3)) (with_reducible first | exact k0d | exact k0 | exact kf0 | exact kg0 | exact kf1 | exact kg1 | exact kf2 | exact kg2 | exact kf3 | exact kg3 | exact kf4 | exact kg4 | exact kf5 | exact kg5 | exact kf6 | exact kg6 | exact kf7 | exact kg7) (fail)
    clear k0 k0d kf0 kg0 kf1 kg1 kf2 kg2 kf3 kg3 kf4 kg4 kf5 kg5 kf6 kg6 kf7 kg7 t0 t1 t2 t3 t4 t5 t6 t7 t8 t9 t10 t11 t12 tf2 tf3 tf4 tf5 tf9 tf10 tf11 tf12
    have T2 : SqBlk ((((((((w1.setCell ⟨w.heap.size + 1 + 1, 2, none⟩ (.int .i64 m0)).setCell ⟨w.heap.size + 1 + 1, 3, none⟩ (.int .i64 m1)).setCell ⟨w.heap.size + 1 + 1, 4, none⟩ (.int .i64 m2)).setCell ⟨w.heap.size + 1 + 1, 5, none⟩ (.int .i64 m3)).setCell ⟨w.heap.size + 1 + 1, 9, none⟩ (.slice A0 n0 c0)).setCell ⟨w.heap.size + 1 + 1, 10, none⟩ (.slice A1 n1 c1)).setCell ⟨w.heap.size + 1 + 1, 11, none⟩ (.slice A2 n2 c2)).setCell ⟨w.heap.size + 1 + 1, 12, none⟩ (.slice A3 n3 c3)).drew (w.heap.size + 1 + 1) 64 3 0 [m0, m1, m2, m3] 0 0 (nilS) [.slice A0 n0 c0, .slice A1 n1 c1, .slice A2 n2 c2, .slice A3 n3 c3] := ((((((((T1.out.putM 0 rfl (by decide) m0).putM 1 rfl (by decide) m1).putM 2 rfl (by decide) m2).putM 3 rfl (by decide) m3).putS 0 rfl (by decide) (.slice A0 n0 c0)).putS 1 rfl (by decide) (.slice A1 n1 c1)).putS 2 rfl (by decide) (.slice A2 n2 c2)).putS 3 rfl (by decide) (.slice A3 n3 c3)).drew
    have R2 : SqBlk ((((((((w1.setCell ⟨w.heap.size + 1 + 1, 2, none⟩ (.int .i64 m0)).setCell ⟨w.heap.size + 1 + 1, 3, none⟩ (.int .i64 m1)).setCell ⟨w.heap.size + 1 + 1, 4, none⟩ (.int .i64 m2)).setCell ⟨w.heap.size + 1 + 1, 5, none⟩ (.int .i64 m3)).setCell ⟨w.heap.size + 1 + 1, 9, none⟩ (.slice A0 n0 c0)).setCell ⟨w.heap.size + 1 + 1, 10, none⟩ (.slice A1 n1 c1)).setCell ⟨w.heap.size + 1 + 1, 11, none⟩ (.slice A2 n2 c2)).setCell ⟨w.heap.size + 1 + 1, 12, none⟩ (.slice A3 n3 c3)).drew (w.heap.size + 1) 64 0 0 [] 0 0 nilS [] := ((((((((R1.out.far (p := ⟨w.heap.size + 1 + 1, 2, none⟩) n23 (.int .i64 m0)).far (p := ⟨w.heap.size + 1 + 1, 3, none⟩) n23 (.int .i64 m1)).far (p := ⟨w.heap.size + 1 + 1, 4, none⟩) n23 (.int .i64 m2)).far (p := ⟨w.heap.size + 1 + 1, 5, none⟩) n23 (.int .i64 m3)).far (p := ⟨w.heap.size + 1 + 1, 9, none⟩) n23 (.slice A0 n0 c0)).far (p := ⟨w.heap.size + 1 + 1, 10, none⟩) n23 (.slice A1 n1 c1)).far (p := ⟨w.heap.size + 1 + 1, 11, none⟩) n23 (.slice A2 n2 c2)).far (p := ⟨w.heap.size + 1 + 1, 12, none⟩) n23 (.slice A3 n3 c3)).drew
    have E2 := hid (show Below w.heap.size w ((((((((w1.setCell ⟨w.heap.size + 1 + 1, 2, none⟩ (.int .i64 m0)).setCell ⟨w.heap.size + 1 + 1, 3, none⟩ (.int .i64 m1)).setCell ⟨w.heap.size + 1 + 1, 4, none⟩ (.int .i64 m2)).setCell ⟨w.heap.size + 1 + 1, 5, none⟩ (.int .i64 m3)).setCell ⟨w.heap.size + 1 + 1, 9, none⟩ (.slice A0 n0 c0)).setCell ⟨w.heap.size + 1 + 1, 10, none⟩ (.slice A1 n1 c1)).setCell ⟨w.heap.size + 1 + 1, 11, none⟩ (.slice A2 n2 c2)).setCell ⟨w.heap.size + 1 + 1, 12, none⟩ (.slice A3 n3 c3)).drew from ((((((((E1.out.setCell (p := ⟨w.heap.size + 1 + 1, 2, none⟩) l3 (.int .i64 m0)).setCell (p := ⟨w.heap.size + 1 + 1, 3, none⟩) l3 (.int .i64 m1)).setCell (p := ⟨w.heap.size + 1 + 1, 4, none⟩) l3 (.int .i64 m2)).setCell (p := ⟨w.heap.size + 1 + 1, 5, none⟩) l3 (.int .i64 m3)).setCell (p := ⟨w.heap.size + 1 + 1, 9, none⟩) l3 (.slice A0 n0 c0)).setCell (p := ⟨w.heap.size + 1 + 1, 10, none⟩) l3 (.slice A1 n1 c1)).setCell (p := ⟨w.heap.size + 1 + 1, 11, none⟩) l3 (.slice A2 n2 c2)).setCell (p := ⟨w.heap.size + 1 + 1, 12, none⟩) l3 (.slice A3 n3 c3)).drew)
    generalize ((((((((w1.setCell ⟨w.heap.size + 1 + 1, 2, none⟩ (.int .i64 m0)).setCell ⟨w.heap.size + 1 + 1, 3, none⟩ (.int .i64 m1)).setCell ⟨w.heap.size + 1 + 1, 4, none⟩ (.int .i64 m2)).setCell ⟨w.heap.size + 1 + 1, 5, none⟩ (.int .i64 m3)).setCell ⟨w.heap.size + 1 + 1, 9, none⟩ (.slice A0 n0 c0)).setCell ⟨w.heap.size + 1 + 1, 10, none⟩ (.slice A1 n1 c1)).setCell ⟨w.heap.size + 1 + 1, 11, none⟩ (.slice A2 n2 c2)).setCell ⟨w.heap.size + 1 + 1, 12, none⟩ (.slice A3 n3 c3)).drew = w2 at *
    obtain ⟨⟨q0, q1⟩, ⟨q2, q3, q4, q5⟩, ⟨q6, q7, q8⟩, q9, q10, q11, q12⟩ := T2.all4
    obtain ⟨⟨r0, r1⟩, ⟨r2, r3, r4, r5⟩, ⟨r6, r7, r8⟩, r9, r10, r11, r12⟩ := R2.all4'
    have f0 := R2.frozen 0
    have f1 := R2.frozen 1
    have f2 := R2.frozen 2
    have f3 := R2.frozen 3
    have f4 := R2.frozen 4
    have f5 := R2.frozen 5
    have f6 := R2.frozen 6
    have f7 := R2.frozen 7
    have f8 := R2.frozen 8
    have f9 := R2.frozen 9
    have f10 := R2.frozen 10
    have f11 := R2.frozen 11
    have f12 := R2.frozen 12
    have hz := R2.set13 3 0 m0 m1 m2 m3 0 0 nilS (.slice A0 n0 c0) (.slice A1 n1 c1) (.slice A2 n2 c2) (.slice A3 n3 c3)
    have HZ := hid hz
    have ho := hid (only13 w2 (w.heap.size + 1) 3 0 m0 m1 m2 m3 0 0 nilS (.slice A0 n0 c0) (.slice A1 n1 c1) (.slice A2 n2 c2) (.slice A3 n3 c3))
    clear hz T2 R2 n13 n23 l3 HC
    go_wp2_with fail
    obtain ⟨⟨z0, z1⟩, ⟨z2, z3, z4, z5⟩, ⟨z6, z7, z8⟩, z9, z10, z11, z12⟩ := HZ.out.all4
    exact bodyPost_ret (v := sqV 3 0 m0 m1 m2 m3 0 0 nilS (.slice A0 n0 c0) (.slice A1 n1 c1) (.slice A2 n2 c2) (.slice A3 n3 c3)) (by simp [sqV, results, Tryd.results21, go_sem, z0, z1, z2, z3, z4, z5, z6, z7, z8, z9, z10, z11, z12]) rfl ⟨by simp [sqV], E2.out.trans ⟨ho.out.os, ho.out.tape, ho.out.output, ho.out.size, fun j hj => ho.out.block j (by have := E2.out.size; omega) (by omega)⟩⟩
end Go.Proofs.YtkkgpdejmcpcpaaDoor

