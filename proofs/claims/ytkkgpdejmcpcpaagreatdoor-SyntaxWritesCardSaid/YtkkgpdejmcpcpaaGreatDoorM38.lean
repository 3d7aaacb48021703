/- Parts: XSynJ, XSynK, XSame20, XPlain20, XHeadA. -/
import Derived.Test.YtkkgpdejmcpcpaaGreatDoorM35
import Derived.Test.YtkkgpdejmcpcpaaGreatDoorM36
import Derived.Test.YtkkgpdejmcpcpaaGreatDoorM37
import Derived.Test.YtkkgpdejmcpcpaaGreatDoorM02
import Derived.Deep.RegionHeldLaw
import Derived.Test.YtkkgpdejmcpcpaaGreatDoorM01
import Derived.Test.YtkkgpdejmcpcpaaGreatDoorM20
/- Chapter 20: syntax.Code. -/
namespace Go.Proofs.YtkkgpdejmcpcpaaGreatDoor
open Go.RowKit
section
variable {σ : Type} {M : Mach σ} {fB fF : FuncId} {me : Value} {At : World → (Nat → Prop) → σ → Prop} {Ok : σ → Nat → Prop}
set_option maxRecDepth 100000 in
set_option maxHeartbeats 8000000 in
theorem scode_any (b : Nat) (T : TypeId) (H : IsCoder M fB fF (.pointer (some ⟨b, 0, none⟩)) At Ok) (Sp : Speaks T (.pointer (some ⟨b, 0, none⟩)) fB fF) (Sp2 : Speaks2 T (.pointer (some ⟨b, 0, none⟩))) (rd : Bool)
    (HR : ∀ W, Calls Tryz.prog 32 #[.iface T (.pointer (some ⟨b, 0, none⟩))] W fun e w' => e = .returned (.bool rd) ∧ w' = W)
    (key : Bool) (vv : Value) (s eff : SqS) (m0 m1 m2 m3 : Int) (lv v0 v1 v2 v3 : Value) (l0 l1 l2 l3 : List Int) (st : σ) (w : World) (F : Nat → Prop) (lim : Nat)
    (hn : SqArg w vv s m0 m1 m2 m3 lv v0 v1 v2 v3 l0 l1 l2 l3) (hs : At w F st) (ho : Ok st lim) (hl : lim + 100000 ≤ 1000000000)
    (hcase : (rd = true ∧ eff = zeroS) ∨ (rd = false ∧ eff = s ∧ RightS key s ∧ Echo M ∧ (s.kind = 3 → ∀ p ∈ [(v0, l0), (v1, l1), (v2, l2), (v3, l3)], NOff p.1 p.2 w F) ∧ (s.kind = 1 ∨ s.kind = 2 → NOff lv s.large w F))) :
    Calls Tryz.prog 10 #[.iface T (.pointer (some ⟨b, 0, none⟩)), .bool key, vv] w (SCodeRes M At w F (codeA key eff) st) := by
  rcases hcase with ⟨rfl, he⟩ | ⟨rfl, he, hright, hecho, h3, h12⟩
  · cases key
    · exact scode_rd_f b T H Sp Sp2 HR vv s eff m0 m1 m2 m3 lv v0 v1 v2 v3 l0 l1 l2 l3 st w F lim hn hs ho hl he
    · exact scode_rd_t b T H Sp Sp2 HR vv s eff m0 m1 m2 m3 lv v0 v1 v2 v3 l0 l1 l2 l3 st w F lim hn hs ho hl he
  · cases key
    · exact scode_wr_f b T H Sp Sp2 HR vv s eff m0 m1 m2 m3 lv v0 v1 v2 v3 l0 l1 l2 l3 st w F lim hn hs ho hl he hright hecho h3 h12
    · exact scode_wr_t b T H Sp Sp2 HR vv s eff m0 m1 m2 m3 lv v0 v1 v2 v3 l0 l1 l2 l3 st w F lim hn hs ho hl he hright hecho h3 h12
end
end Go.Proofs.YtkkgpdejmcpcpaaGreatDoor

/- Chapter 20: syntax.Code where it refuses; a writer, a reader. -/
namespace Go.Proofs.YtkkgpdejmcpcpaaGreatDoor
open Go.RowKit
set_option maxRecDepth 100000 in
set_option maxHeartbeats 4000000 in
theorem scode_bad (b : Nat) (T : TypeId) (HR : ∀ W, Calls Tryz.prog 32 #[.iface T (.pointer (some ⟨b, 0, none⟩))] W fun e w' => e = .returned (.bool false) ∧ w' = W)
    (key : Bool) (vv : Value) (s : SqS) (m0 m1 m2 m3 : Int) (lv v0 v1 v2 v3 : Value) (l0 l1 l2 l3 : List Int) (w : World)
    (hn : SqArg w vv s m0 m1 m2 m3 lv v0 v1 v2 v3 l0 l1 l2 l3) (hbad : askNo key s ≠ 0) :
    Calls Tryz.prog 10 #[.iface T (.pointer (some ⟨b, 0, none⟩)), .bool key, vv] w fun e w' => e = .returned (.tuple #[zeroV, codeV (askNo key s)]) ∧ Below w.heap.size w w' := by
  have hvv := hn.num.v
  have HCK := hid (fun W (hb : Below w.heap.size w W) => scheck_any key vv s m0 m1 m2 m3 lv v0 v1 v2 v3 l0 l1 l2 l3 W (hn.below hb))
  subst hvv
  unfold sqV at HCK ⊢
  have hcv : codeV (askNo key s) = .iface 43 (.int .i64 (askNo key s)) := by unfold codeV; rw [if_neg hbad]
  rw [hcv] at HCK ⊢
  clear hcv hbad hn
  generalize askNo key s = no at *
  have hbt : Below w.heap.size w ((w.alloc (.cells #[.int .i64 s.kind, .int .i64 s.mode, .int .i64 m0, .int .i64 m1, .int .i64 m2, .int .i64 m3, .int .i64 s.x, .int .i64 s.y, lv, v0, v1, v2, v3] 36)).alloc (.cells #[.int .i64 0, .int .i64 0, .int .i64 0, .int .i64 0, .int .i64 0, .int .i64 0, .int .i64 0, .int .i64 0, nilS, nilS, nilS, nilS, nilS] 36)) := ((Below.refl _ _).alloc (Nat.le_refl _) _).alloc (by simp) _
  have hres : SqBlk ((w.alloc (.cells #[.int .i64 s.kind, .int .i64 s.mode, .int .i64 m0, .int .i64 m1, .int .i64 m2, .int .i64 m3, .int .i64 s.x, .int .i64 s.y, lv, v0, v1, v2, v3] 36)).alloc (.cells #[.int .i64 0, .int .i64 0, .int .i64 0, .int .i64 0, .int .i64 0, .int .i64 0, .int .i64 0, .int .i64 0, nilS, nilS, nilS, nilS, nilS] 36)) (w.heap.size + 1) 36 0 0 [] 0 0 nilS [] := SqBlk.new (Blk.newAt' _ _ _ (by simp)) rfl
  have TS := hid (And.intro hbt hres)
  clear hbt hres
  go_enter Tryz.func10, Tryz.ntmps10
  go_wp2_with (go_at_call 32; refine (HR _).mono ?_; rintro e w2 ⟨rfl, rfl⟩)
  generalize ((w.alloc _).alloc _ : World) = wq at *
  refine (HCK.out _ TS.out.1).mono ?_
  rintro e wr ⟨rfl, hbr⟩
  have hrB := TS.out.2.below hbr
  obtain ⟨⟨r0, r1⟩, ⟨r2, r3, r4, r5⟩, ⟨r6, r7, r8⟩, r9, r10, r11, r12⟩ := hrB.all4'
  have f0 := hrB.frozen 0
  have f1 := hrB.frozen 1
  have f2 := hrB.frozen 2
  have f3 := hrB.frozen 3
  have f4 := hrB.frozen 4
  have f5 := hrB.frozen 5
  have f6 := hrB.frozen 6
  have f7 := hrB.frozen 7
  have f8 := hrB.frozen 8
  have f9 := hrB.frozen 9
  have f10 := hrB.frozen 10
  have f11 := hrB.frozen 11
  have f12 := hrB.frozen 12
  have hz := hrB.set13 0 0 0 0 0 0 0 0 nilS nilS nilS nilS nilS
  obtain ⟨⟨z0, z1⟩, ⟨z2, z3, z4, z5⟩, ⟨z6, z7, z8⟩, z9, z10, z11, z12⟩ := hz.all4
  have V := hid (TS.out.1.trans (hbr.mono TS.out.1.size))
  clear hrB hz hbr
  go_wp2_with fail
  refine bodyPost_ret (v := .tuple #[zeroV, .iface 43 (.int .i64 no)]) (by simp [zeroV, sqV, results, Tryz.results10, go_sem, z0, z1, z2, z3, z4, z5, z6, z7, z8, z9, z10, z11, z12]) rfl ⟨rfl, ?_⟩
  have ho := only13 wr (w.heap.size + 1) 0 0 0 0 0 0 0 0 nilS nilS nilS nilS nilS
  exact V.out.trans ⟨ho.os, ho.tape, ho.output, ho.size, fun k hk => ho.block k (by have := V.out.size; omega) (by omega)⟩
section
theorem wcode20 (b : Nat) (key : Bool) (vv : Value) (s : SqS) (m0 m1 m2 m3 : Int) (lv v0 v1 v2 v3 : Value) (l0 l1 l2 l3 : List Int) (st : Wr) (w : World) (F : Nat → Prop) (lim : Nat)
    (hn : SqArg w vv s m0 m1 m2 m3 lv v0 v1 v2 v3 l0 l1 l2 l3) (hs : AtWr b w F st) (ho : st.Ok lim) (hl : lim + 100000 ≤ 1000000000) (hr : askNo key s = 0)
    (h3 : s.kind = 3 → ∀ p ∈ [(v0, l0), (v1, l1), (v2, l2), (v3, l3)], NOff p.1 p.2 w F) (h12 : s.kind = 1 ∨ s.kind = 2 → NOff lv s.large w F) :
    Calls Tryz.prog 10 #[.iface 25 (.pointer (some ⟨b, 0, none⟩)), .bool key, vv] w (SCodeRes wrM (AtWr b) w F (codeA key s) st) :=
  scode_any b _ (wr_coder b) (wr_speaks b) (wr_speaks2 b) false (reads_wr b) key vv s s m0 m1 m2 m3 lv v0 v1 v2 v3 l0 l1 l2 l3 st w F lim hn hs ho hl (.inr ⟨rfl, rfl, right_of hr, echo_wr, h3, h12⟩)
theorem rcode20 (b : Nat) (key : Bool) (vv : Value) (s : SqS) (m0 m1 m2 m3 : Int) (lv v0 v1 v2 v3 : Value) (l0 l1 l2 l3 : List Int) (st : Rd) (w : World) (F : Nat → Prop) (lim : Nat)
    (hn : SqArg w vv s m0 m1 m2 m3 lv v0 v1 v2 v3 l0 l1 l2 l3) (hs : AtRd b w F st) (ho : st.Ok lim) (hl : lim + 100000 ≤ 1000000000) :
    Calls Tryz.prog 10 #[.iface 61 (.pointer (some ⟨b, 0, none⟩)), .bool key, vv] w (SCodeRes rdM (AtRd b) w F (codeA key zeroS) st) :=
  scode_any b _ (rd_coder b) (rd_speaks b) (rd_speaks2 b) true (reads_rd b) key vv s zeroS m0 m1 m2 m3 lv v0 v1 v2 v3 l0 l1 l2 l3 st w F lim hn hs ho hl (.inl ⟨rfl, rfl⟩)
theorem sq_zero (W : World) (k mode : Int) : SqArg W (sqV k mode 0 0 0 0 0 0 nilS nilS nilS nilS nilS) ⟨k, mode, [0, 0, 0, 0], 0, 0, [], [[], [], [], []]⟩ 0 0 0 0 nilS nilS nilS nilS nilS [] [] [] [] :=
  have h : Nums W nilS [] := ⟨none, 0, rfl, Nat.le_refl _, fun h => absurd rfl h⟩
  ⟨⟨rfl, rfl⟩, rfl, h, h, h, h, h⟩
end
end Go.Proofs.YtkkgpdejmcpcpaaGreatDoor

/- Chapter 20: kinlaw20.Same, Plain, parts. -/
namespace Go.Proofs.YtkkgpdejmcpcpaaGreatDoor
open Go.RowKit

/-- Two squares in their boxes, of the same numbers and lists. -/
structure SM (w : World) (k mode : Int) (m0 m1 m2 m3 x y : Int) (lv v0 v1 v2 v3 lu u0 u1 u2 u3 : Value) (L l0 l1 l2 l3 : List Int) (W : World) : Prop where
  bel : Below w.heap.size w W
  a : SqBlk W w.heap.size 36 k mode [m0, m1, m2, m3] x y lv [v0, v1, v2, v3]
  b : SqBlk W (w.heap.size + 1) 42 k mode [m0, m1, m2, m3] x y lu [u0, u1, u2, u3]
  ns : ∀ p ∈ [(lv, L), (v0, l0), (v1, l1), (v2, l2), (v3, l3), (lu, L), (u0, l0), (u1, l1), (u2, l2), (u3, l3)], Nums W p.1 p.2
section
variable {w W W' : World} {k mode m0 m1 m2 m3 x y : Int} {lv v0 v1 v2 v3 lu u0 u1 u2 u3 : Value} {L l0 l1 l2 l3 : List Int}
theorem SM.below (h : SM w k mode m0 m1 m2 m3 x y lv v0 v1 v2 v3 lu u0 u1 u2 u3 L l0 l1 l2 l3 W) (hb : Below W.heap.size W W') : SM w k mode m0 m1 m2 m3 x y lv v0 v1 v2 v3 lu u0 u1 u2 u3 L l0 l1 l2 l3 W' :=
  ⟨h.bel.trans (hb.mono h.bel.size), h.a.below hb, h.b.below hb, fun p hp => (h.ns p hp).below hb⟩
theorem SM.nth (_h : SM w k mode m0 m1 m2 m3 x y lv v0 v1 v2 v3 lu u0 u1 u2 u3 L l0 l1 l2 l3 W) (i : Nat) (hi : i < 4) : ∃ v u l, [v0, v1, v2, v3].getD i nilS = v ∧ [u0, u1, u2, u3].getD i nilS = u ∧ [l0, l1, l2, l3].getD i [] = l ∧ (v, l) ∈ [(lv, L), (v0, l0), (v1, l1), (v2, l2), (v3, l3), (lu, L), (u0, l0), (u1, l1), (u2, l2), (u3, l3)] ∧ (u, l) ∈ [(lv, L), (v0, l0), (v1, l1), (v2, l2), (v3, l3), (lu, L), (u0, l0), (u1, l1), (u2, l2), (u3, l3)] := by
  match i, hi with
  | 0, _ => exact ⟨_, _, _, rfl, rfl, rfl, by simp, by simp⟩
  | 1, _ => exact ⟨_, _, _, rfl, rfl, rfl, by simp, by simp⟩
  | 2, _ => exact ⟨_, _, _, rfl, rfl, rfl, by simp, by simp⟩
  | 3, _ => exact ⟨_, _, _, rfl, rfl, rfl, by simp, by simp⟩
end
set_option maxRecDepth 100000 in
set_option maxHeartbeats 4000000 in
theorem same_any (k mode m0 m1 m2 m3 x y : Int) (lv v0 v1 v2 v3 lu u0 u1 u2 u3 : Value) (L l0 l1 l2 l3 : List Int) (w : World)
    (hn : ∀ p ∈ [(lv, L), (v0, l0), (v1, l1), (v2, l2), (v3, l3), (lu, L), (u0, l0), (u1, l1), (u2, l2), (u3, l3)], Nums w p.1 p.2) (hl : ∀ l ∈ [L, l0, l1, l2, l3], l.length ≤ 1000000) :
    Calls Tryz.prog 13 #[sqV k mode m0 m1 m2 m3 x y lv v0 v1 v2 v3, sqV k mode m0 m1 m2 m3 x y lu u0 u1 u2 u3] w fun e w' => e = .returned (.bool true) ∧ Below w.heap.size w w' := by
  unfold sqV
  have hb2 : Below w.heap.size w ((w.alloc (.cells #[.int .i64 k, .int .i64 mode, .int .i64 m0, .int .i64 m1, .int .i64 m2, .int .i64 m3, .int .i64 x, .int .i64 y, lv, v0, v1, v2, v3] 36)).alloc (.cells #[.int .i64 k, .int .i64 mode, .int .i64 m0, .int .i64 m1, .int .i64 m2, .int .i64 m3, .int .i64 x, .int .i64 y, lu, u0, u1, u2, u3] 42)) := ((Below.refl _ _).alloc (Nat.le_refl _) _).alloc (by simp) _
  have X0 := hid (show SM w k mode m0 m1 m2 m3 x y lv v0 v1 v2 v3 lu u0 u1 u2 u3 L l0 l1 l2 l3 ((w.alloc (.cells #[.int .i64 k, .int .i64 mode, .int .i64 m0, .int .i64 m1, .int .i64 m2, .int .i64 m3, .int .i64 x, .int .i64 y, lv, v0, v1, v2, v3] 36)).alloc (.cells #[.int .i64 k, .int .i64 mode, .int .i64 m0, .int .i64 m1, .int .i64 m2, .int .i64 m3, .int .i64 x, .int .i64 y, lu, u0, u1, u2, u3] 42)) from
    ⟨hb2, SqBlk.of ((Blk.new _ _ _).alloc _) rfl, SqBlk.of (Blk.newAt' _ _ _ (by simp)) rfl, fun p hp => (hn p hp).below hb2⟩)
  have HL := hid hl
  clear hb2 hn hl
  go_enter Tryz.func13, Tryz.ntmps13
  go_wp2_with fail
  generalize ((w.alloc _).alloc _ : World) = w1 at *
  go_loopg [5] 4 (fun j iv wr => ∃ i : Nat, i + j = 4 ∧ iv = .int .i64 i ∧ SM w k mode m0 m1 m2 m3 x y lv v0 v1 v2 v3 lu u0 u1 u2 u3 L l0 l1 l2 l3 wr)
  case atStart => exact ⟨0, by omega, rfl, X0.out⟩
  case round =>
    obtain ⟨i, hij, rfl, hx⟩ := hrel
    have X := hid hx
    rcases (show i < 4 ∨ i = 4 by omega) with hi | rfl
    · have hk0 : (0 : Int) ≤ (i : Int) := by omega
      have hk4 : (i : Int) < 4 := by omega
      have hd4 : decide ((i : Int) < 4) = true := by simp; omega
      obtain ⟨v, u, l, hv, hu, hll, hmv, hmu⟩ := hx.nth i hi
      obtain ⟨m, hm⟩ : ∃ m, m = [m0, m1, m2, m3].getD i 0 := ⟨_, rfl⟩
      have hcells : ∀ W, SM w k mode m0 m1 m2 m3 x y lv v0 v1 v2 v3 lu u0 u1 u2 u3 L l0 l1 l2 l3 W → W.cell? ⟨w.heap.size, 2 + i, none⟩ = some (.int .i64 m) ∧ W.cell? ⟨w.heap.size + 1, 2 + i, none⟩ = some (.int .i64 m) ∧ W.cell? ⟨w.heap.size, 9 + i, none⟩ = some v ∧ W.cell? ⟨w.heap.size + 1, 9 + i, none⟩ = some u := fun W h =>
        ⟨by rw [h.a.cm i hi, ← hm], by rw [h.b.cm i hi, ← hm], by rw [h.a.cs i hi, hv], by rw [h.b.cs i hi, hu]⟩
      have hlen : l.length ≤ 1000000 := by
        refine HL.out l ?_
        rw [← hll]
        match i, hi with
        | 0, _ => simp
        | 1, _ => simp
        | 2, _ => simp
        | 3, _ => simp
      have MM := hid (And.intro hmv (And.intro hmu hlen))
      have HCL := hid hcells
      have XD := hid (hx.below (Below.refl wr.heap.size wr).drew)
      have IJ := hid (And.intro hij hi)
      obtain ⟨c0, c1, cc2, cc3⟩ := hcells _ hx
      have kd := hcells _ XD.out
      have k0 := hcells _ hx
      clear hcells hlen hmv hmu hll hv hu hij hi hx hm
      have hne : (m != m) = false := by simp
      go_wp2_with fail
      go_region_held_law (fun W => W.cell? ⟨w.heap.size, 2 + i, none⟩ = some (.int .i64 m) ∧ W.cell? ⟨w.heap.size + 1, 2 + i, none⟩ = some (.int .i64 m) ∧ W.cell? ⟨w.heap.size, 9 + i, none⟩ = some v ∧ W.cell? ⟨w.heap.size + 1, 9 + i, none⟩ = some u) (first | exact k1 | exact k0 | exact kd)
        (first
          | (go_at_call 44
             refine (ints_same v u l _ (by exact XD.out.ns (v, l) MM.out.1) (by exact XD.out.ns (u, l) MM.out.2.1) MM.out.2.2).mono ?_
             rintro e w3 ⟨rfl, hb⟩
             have X3 := hid (XD.out.below hb)
             have k1 := HCL.out _ X3.out
             clear hb))
      go_wp2_with fail
      go_roundg (gk - 1)
      case measure => have := IJ.out; omega
      case rel => exact ⟨i + 1, by have := IJ.out; omega, by go_num, X3.out⟩
    · obtain ⟨⟨q0, q1⟩, ⟨q2, q3, q4, q5⟩, ⟨q6, q7, q8⟩, q9, q10, q11, q12⟩ := hx.a.all4
      obtain ⟨⟨r0, r1⟩, ⟨r2, r3, r4, r5⟩, ⟨r6, r7, r8⟩, r9, r10, r11, r12⟩ := hx.b.all4
      clear hx hij
      go_wp2_with fail
      refine (ints_same lv lu L _ (by exact X.out.ns (lv, L) (by simp)) (by exact X.out.ns (lu, L) (by simp)) (HL.out L (by simp))).mono ?_
      rintro e w3 ⟨rfl, hb⟩
      have X3 := hid (X.out.below hb)
      clear hb q0 q1 q2 q3 q4 q5 q6 q7 q8 q9 q10 q11 q12 r0 r1 r2 r3 r4 r5 r6 r7 r8 r9 r10 r11 r12
      go_wp2_with fail
      go_ret
      exact ⟨rfl, X3.out.bel⟩
end Go.Proofs.YtkkgpdejmcpcpaaGreatDoor

/- Chapter 20: kinlaw20.Plain, parts. -/
namespace Go.Proofs.YtkkgpdejmcpcpaaGreatDoor
open Go.RowKit

set_option maxRecDepth 100000 in
set_option maxHeartbeats 2000000 in
theorem plain20 (k mode m0 m1 m2 m3 x y : Int) (A A0 A1 A2 A3 : Option Addr) (n n0 n1 n2 n3 c c0 c1 c2 c3 : Nat) (w : World) :
    Calls Tryz.prog 12 #[sqV k mode m0 m1 m2 m3 x y (.slice A n c) (.slice A0 n0 c0) (.slice A1 n1 c1) (.slice A2 n2 c2) (.slice A3 n3 c3)] w fun e w' => e = .returned (sqV k mode m0 m1 m2 m3 x y (.slice A n c) (.slice A0 n0 c0) (.slice A1 n1 c1) (.slice A2 n2 c2) (.slice A3 n3 c3)) ∧ Below w.heap.size w w' := by
  unfold sqV
  go_enter Tryz.func12, Tryz.ntmps12
  go_wp2_with fail
  exact bodyPost_ret (v := .agg #[.int .i64 k, .int .i64 mode, .int .i64 m0, .int .i64 m1, .int .i64 m2, .int .i64 m3, .int .i64 x, .int .i64 y, .slice A n c, .slice A0 n0 c0, .slice A1 n1 c1, .slice A2 n2 c2, .slice A3 n3 c3]) (by simp [results, Tryz.results12, go_sem]) rfl ⟨rfl, ((Below.refl _ _).alloc (Nat.le_refl _) _).alloc (by simp) _⟩
/-- The parts of a square's kind, as a value. -/
def partsV (k mode m0 m1 m2 m3 x y : Int) (lv v0 v1 v2 v3 : Value) : Value :=
  if k = 1 then sqV 1 0 0 0 0 0 x y lv nilS nilS nilS nilS else if k = 2 then sqV 2 mode 0 0 0 0 0 0 lv nilS nilS nilS nilS else if k = 3 then sqV 3 0 m0 m1 m2 m3 0 0 nilS v0 v1 v2 v3 else sqV k 0 0 0 0 0 0 0 nilS nilS nilS nilS nilS
theorem SqBlk.drew {W : World} {ob : Nat} {ty : TypeId} {k mode x y : Int} {ms : List Int} {lv : Value} {vs : List Value} (h : SqBlk W ob ty k mode ms x y lv vs) : SqBlk W.drew ob ty k mode ms x y lv vs := h
end Go.Proofs.YtkkgpdejmcpcpaaGreatDoor

/- Chapter 20: heads: syntax.Pack, syntax.Read, syntax.Cost. -/
namespace Go.Proofs.YtkkgpdejmcpcpaaGreatDoor
open Go.RowKit

/-- What is wrong with a head. -/
def packNo (k q : Int) (n : Nat) : Int := if k < 1 ∨ 4 < k then 13 else if q < 0 ∨ 15 < q then 3 else if 2 < k ∧ (q ≠ 0 ∨ 0 < n) then 2 else if 65536 ≤ n then 5 else 0
def packB (k q : Int) (bs : List UInt8) : List UInt8 := if 2 < k then [] else UInt8.ofNat q.toNat :: bs
def isKind (k : Int) : Bool := decide (1 ≤ k) && decide (k ≤ 4)
def isBare (k : Int) : Bool := decide (k = 3) || decide (k = 4)
theorem skind_any (k : Int) (w : World) : Calls Tryz.prog 52 #[.int .i64 k] w fun e w' => e = .returned (.bool (isKind k)) ∧ w' = w := by
  have HL := hid (show isKind k = (decide (1 ≤ k) && decide (k ≤ 4)) from rfl)
  have h1 : decide (1 ≤ k) = true ∨ decide (1 ≤ k) = false := by cases decide (1 ≤ k) <;> simp
  rcases h1 with h1 | h1
  all_goals
    rw [h1] at HL
    go_enter Tryz.func52, Tryz.ntmps52
    go_wp2_with fail
    go_ret
    rw [HL.out]
    exact ⟨rfl, rfl⟩
theorem sbare_any (k : Int) (w : World) : Calls Tryz.prog 53 #[.int .i64 k] w fun e w' => e = .returned (.bool (isBare k)) ∧ w' = w := by
  have HL := hid (show isBare k = (decide (k = 3) || decide (k = 4)) from rfl)
  have h1 : ((k == 3) = true ∧ decide (k = 3) = true) ∨ ((k == 3) = false ∧ decide (k = 3) = false) := by by_cases h : k = 3 <;> simp [h]
  rcases h1 with ⟨h1, h2⟩ | ⟨h1, h2⟩
  all_goals
    rw [h2] at HL
    clear h2
    go_enter Tryz.func53, Tryz.ntmps53
    go_wp2_with fail
    go_ret
    rw [HL.out]
    exact ⟨rfl, rfl⟩
/-- What Pack answers. -/
def HPackRes (no k : Int) (bs : List UInt8) (w : World) (e : Ending) (w' : World) : Prop :=
  ∃ v, e = .returned (.tuple #[.agg #[.int .i64 (if no = 0 then k else 0), v], codeV no]) ∧ Byt w' v (if no = 0 then bs else []) ∧ Below w.heap.size w w'
theorem byt_nil (w : World) : Byt w (.slice none 0 0) [] := ⟨none, 0, rfl, Nat.le_refl _, fun h => absurd rfl h⟩
theorem HPackRes.bad {no k : Int} {bs : List UInt8} {w w' : World} {e : Ending} (h : no ≠ 0) (he : e = .returned (.tuple #[.agg #[.int .i64 0, .slice none 0 0], .iface 43 (.int .i64 no)])) (hb : Below w.heap.size w w') : HPackRes no k bs w e w' :=
  ⟨.slice none 0 0, by rw [he, if_neg h]; unfold codeV; rw [if_neg h], by rw [if_neg h]; exact byt_nil _, hb⟩
theorem HPackRes.good {k : Int} {bs : List UInt8} {w w' : World} {e : Ending} {v : Value} (he : e = .returned (.tuple #[.agg #[.int .i64 k, v], .nilIface])) (hv : Byt w' v bs) (hb : Below w.heap.size w w') : HPackRes 0 k bs w e w' :=
  ⟨v, by rw [he, if_pos rfl]; rfl, by rw [if_pos rfl]; exact hv, hb⟩
set_option maxRecDepth 100000 in
set_option maxHeartbeats 4000000 in
theorem pack_any (k q : Int) (x : Value) (bs : List UInt8) (w : World) (hx : Byt w x bs) (hl : bs.length ≤ 140737488355328) :
    Calls Tryz.prog 22 #[.agg #[.int .i64 k, .int .i64 q, x]] w (HPackRes (packNo k q bs.length) k (packB k q bs) w) := by
  obtain ⟨i0, hi0, hz0, hz1, hz2⟩ := info_parts info_u8
  have IP := hid (And.intro hi0 (And.intro hz0 (And.intro hz1 hz2)))
  clear hi0 hz0 hz1 hz2
  obtain ⟨A, c, rfl, hc⟩ := hx.form
  have X := hid hx
  have HK := hid (fun W => skind_any k W)
  have HB := hid (fun W => sbare_any k W)
  clear hx
  have PN := hid (show packNo k q bs.length = if k < 1 ∨ 4 < k then 13 else if q < 0 ∨ 15 < q then 3 else if 2 < k ∧ (q ≠ 0 ∨ 0 < bs.length) then 2 else if 65536 ≤ bs.length then 5 else 0 from rfl)
  generalize packNo k q bs.length = no at *
  have hbb : ∀ o1 o2 : Obj, Below w.heap.size w ((w.alloc o1).alloc o2) := fun o1 o2 => ((Below.refl _ _).alloc (Nat.le_refl _) _).alloc (by simp) _
  have BB := hid hbb
  clear hbb
  by_cases h1 : k < 1 ∨ 4 < k
  · have e1 : isKind k = false := by unfold isKind; rcases h1 with h | h <;> simp <;> omega
    rw [e1] at HK
    have N := hid (show no = 13 by rw [PN.out, if_pos h1])
    clear h1 e1 PN
    go_enter Tryz.func22, Tryz.ntmps22
    go_wp2_with (go_at_call 52; refine (HK.out _).mono ?_; rintro e w2 ⟨rfl, rfl⟩)
    rw [N.out]
    exact bodyPost_ret (v := .tuple #[.agg #[.int .i64 0, .slice none 0 0], .iface 43 (.int .i64 13)]) (by simp [results, Tryz.results22, go_sem]) rfl (HPackRes.bad (by decide) rfl (BB.out _ _))
  · have e1 : isKind k = true := by unfold isKind; simp; omega
    rw [e1] at HK
    by_cases h2 : q < 0 ∨ 15 < q
    · have N := hid (show no = 3 by rw [PN.out, if_neg h1, if_pos h2])
      have h3 : decide (q < 0) = true ∨ (decide (q < 0) = false ∧ decide (15 < q) = true) := by
        by_cases h : q < 0
        · exact .inl (by simpa using h)
        · exact .inr ⟨by simpa using h, by simp; omega⟩
      clear h1 e1 PN h2
      rcases h3 with h3 | ⟨h3, h4⟩
      all_goals
        go_enter Tryz.func22, Tryz.ntmps22
        go_wp2_with (go_at_call 52; refine (HK.out _).mono ?_; rintro e w2 ⟨rfl, rfl⟩)
        rw [N.out]
        exact bodyPost_ret (v := .tuple #[.agg #[.int .i64 0, .slice none 0 0], .iface 43 (.int .i64 3)]) (by simp [results, Tryz.results22, go_sem]) rfl (HPackRes.bad (by decide) rfl (BB.out _ _))
    · have d1 : decide (q < 0) = false := by simp; omega
      have d2 : decide (15 < q) = false := by simp; omega
      by_cases h3 : 2 < k
      · have e2 : isBare k = true := by unfold isBare; simp; omega
        rw [e2] at HB
        by_cases h4 : q ≠ 0 ∨ 0 < bs.length
        · have N := hid (show no = 2 by rw [PN.out, if_neg h1, if_neg h2, if_pos ⟨h3, h4⟩])
          have h5 : (q != 0) = true ∨ ((q != 0) = false ∧ decide ((0 : Int) < (bs.length : Int)) = true ∧ decide (0 < bs.length) = true) := by
            by_cases h : q = 0
            · have hb0 : 0 < bs.length := by omega
              exact .inr ⟨by simp [h], by simp; omega, by simp; omega⟩
            · exact .inl (by simpa using h)
          clear h1 e1 PN h2 e2 h3 h4
          rcases h5 with h5 | ⟨h5, h6, h7⟩
          all_goals
            go_enter Tryz.func22, Tryz.ntmps22
            go_wp2_with (first
              | (go_at_call 52; refine (HK.out _).mono ?_; rintro e w2 ⟨rfl, rfl⟩)
              | (go_at_call 53; refine (HB.out _).mono ?_; rintro e w3 ⟨rfl, rfl⟩))
            rw [N.out]
            exact bodyPost_ret (v := .tuple #[.agg #[.int .i64 0, .slice none 0 0], .iface 43 (.int .i64 2)]) (by simp [results, Tryz.results22, go_sem]) rfl (HPackRes.bad (by decide) rfl (BB.out _ _))
        · obtain ⟨rfl, hb0⟩ : q = 0 ∧ bs.length = 0 := by omega
          have N := hid (show no = 0 by rw [PN.out, if_neg h1, if_neg h2, if_neg (by omega), if_neg (by omega)])
          have hp : packB k 0 bs = [] := by unfold packB; rw [if_pos h3]
          rw [hp, hb0]
          clear h1 e1 PN h2 e2 h3 h4 hp
          go_enter Tryz.func22, Tryz.ntmps22
          go_wp2_with (first
            | (go_at_call 52; refine (HK.out _).mono ?_; rintro e w2 ⟨rfl, rfl⟩)
            | (go_at_call 53; refine (HB.out _).mono ?_; rintro e w3 ⟨rfl, rfl⟩))
          rw [N.out]
          exact bodyPost_ret (v := .tuple #[.agg #[.int .i64 k, .slice none 0 0], .nilIface]) (by simp [results, Tryz.results22, go_sem]) rfl (HPackRes.good rfl (byt_nil _) (BB.out _ _))
      · have e2 : isBare k = false := by unfold isBare; simp; omega
        rw [e2] at HB
        by_cases h4 : 65536 ≤ bs.length
        · have N := hid (show no = 5 by rw [PN.out, if_neg h1, if_neg h2, if_neg (by omega), if_pos h4])
          have d3 : decide ((65536 : Int) ≤ (bs.length : Int)) = true := by simp; omega
          have d4 : decide (65536 ≤ bs.length) = true := by simp; omega
          clear h1 e1 PN h2 e2 h3 h4
          go_enter Tryz.func22, Tryz.ntmps22
          go_wp2_with (first
            | (go_at_call 52; refine (HK.out _).mono ?_; rintro e w2 ⟨rfl, rfl⟩)
            | (go_at_call 53; refine (HB.out _).mono ?_; rintro e w3 ⟨rfl, rfl⟩))
          rw [N.out]
          exact bodyPost_ret (v := .tuple #[.agg #[.int .i64 0, .slice none 0 0], .iface 43 (.int .i64 5)]) (by simp [results, Tryz.results22, go_sem]) rfl (HPackRes.bad (by decide) rfl (BB.out _ _))
        · have N := hid (show no = 0 by rw [PN.out, if_neg h1, if_neg h2, if_neg (by omega), if_neg h4])
          have d3 : decide ((65536 : Int) ≤ (bs.length : Int)) = false := by simp; omega
          have d4 : decide (65536 ≤ bs.length) = false := by simp; omega
          have hp : packB k q bs = UInt8.ofNat q.toNat :: bs := by unfold packB; rw [if_neg h3]
          rw [hp]
          have q1 : IntKind.u8.wrap q = (((UInt8.ofNat q.toNat).toNat : Nat) : Int) := by
            obtain ⟨n, rfl⟩ : ∃ n : Nat, q = (n : Int) := ⟨q.toNat, by omega⟩
            rw [wu8]; simp
          generalize UInt8.ofNat q.toNat = c1 at *
          have hl2 : bs.length < 65536 := by omega
          clear hl
          clear h1 e1 PN h2 e2 h3 h4 hp
          go_enter Tryz.func22, Tryz.ntmps22
          go_wp2_with (first
            | (go_at_call 52; refine (HK.out _).mono ?_; rintro e w2 ⟨rfl, rfl⟩)
            | (go_at_call 53; refine (HB.out _).mono ?_; rintro e w3 ⟨rfl, rfl⟩))
          have hh := (Blk.new w 71 #[.int .i64 k, .int .i64 q, .slice A bs.length c]).alloc (.cells #[.int .i64 0, .slice none 0 0] 67)
          have hcd := Blk.newAt' (n := w.heap.size + 1) (w.alloc (.cells #[.int .i64 k, .int .i64 q, .slice A bs.length c] 71)) 67 #[.int .i64 0, .slice none 0 0] (by simp)
          have hsz : ((w.alloc (.cells #[.int .i64 k, .int .i64 q, .slice A bs.length c] 71)).alloc (.cells #[.int .i64 0, .slice none 0 0] 67)).heap.size = w.heap.size + 2 := by simp
          have hb2 := BB.out (.cells #[.int .i64 k, .int .i64 q, .slice A bs.length c] 71) (.cells #[.int .i64 0, .slice none 0 0] 67)
          generalize ((w.alloc _).alloc _ : World) = w2 at *
          have W2 := hid (And.intro hh (And.intro hcd (And.intro hsz hb2)))
          have hcells : ∀ W, Blk W w.heap.size 71 #[.int .i64 k, .int .i64 q, .slice A bs.length c] → W.cell? ⟨w.heap.size, 0, none⟩ = some (.int .i64 k) ∧ W.cell? ⟨w.heap.size, 1, none⟩ = some (.int .i64 q) ∧ W.cell? ⟨w.heap.size, 2, none⟩ = some (.slice A bs.length c) := by
            intro W h
            refine ⟨?_, ?_, ?_⟩ <;> (rw [h.cell]; rfl)
          have HC := hid hcells
          have k2 := hcells _ hh
          have k2d := hcells _ hh.drew
          have k3 := hcells _ (hh.drew.alloc (.cells #[.int .u8 (c1.toNat : Nat)] 5))
          have k5d := hcells _ (hh.alloc (.cells #[.int .u8 (c1.toNat : Nat)] 5)).drew
          have k3d := hcells _ (hh.alloc (.cells #[.int .u8 (c1.toNat : Nat)] 5))
          have OL := hid (World.ownsRow_lit (size := 1) (base := w2.heap.size) (e := 5) w2 #[.int .u8 (c1.toNat : Nat)] 1 (Nat.le_refl _) (by unfold maxLen; omega) rfl)
          have OLd := hid (World.ownsRow_lit (size := 1) (base := w2.heap.size) (e := 5) w2.drew #[.int .u8 (c1.toNat : Nat)] 1 (Nat.le_refl _) (by unfold maxLen; omega) rfl)
          have XA := hid ((X.out.below hb2).alloc (.cells #[.int .u8 (c1.toNat : Nat)] 5))
          have XD := hid (X.out.below (hb2.trans ((((Below.refl w2.heap.size w2).drew).alloc (Nat.le_refl _) (.cells #[.int .u8 (c1.toNat : Nat)] 5)).mono (by omega))))
          clear hcells hh hcd hsz hb2
          go_region_held_law (fun W => W.cell? ⟨w.heap.size, 0, none⟩ = some (.int .i64 k) ∧ W.cell? ⟨w.heap.size, 1, none⟩ = some (.int .i64 q) ∧ W.cell? ⟨w.heap.size, 2, none⟩ = some (.slice A bs.length c)) (first | exact k6 | exact k4 | exact k3 | exact k2 | exact k2d | exact k3d | exact k5d)
            (first
              | ((refine step_append_form _ (by rfl) (.tmp 58) (.tmp 60) _ (by rfl) w2.heap.size 5 i0 (.int .u8 0) 1 1 Tryz.underlying53 IP.out.1 IP.out.2.1 IP.out.2.2.1 IP.out.2.2.2 rfl (by omega) (.slice (some ⟨w2.heap.size, 0, none⟩) 1 1) 1 [.int .u8 (c1.toNat : Nat)] (by rfl) (by first | exact OL.out | exact OL.out.drew | exact OLd.out) (.slice A bs.length c) bs.length (bs.map byteV) (by rfl) (by first | exact XA.out.from_ | exact XA.out.drew.from_ | exact XD.out.from_) (one_bytes bs) (.inl (by simp [Value.ownBlock])) (by unfold maxLen; omega) (by omega) (by simp) (c1 :: bs).length ((c1 :: bs).map byteV) (by simp; omega) (by rfl) ?_)
                 intro g cap w4 hown hgrow hat hlt
                 have hbel : Below w2.heap.size w2 w4 := by
                   first
                     | exact (((Below.refl w2.heap.size w2).alloc (Nat.le_refl _) _).drew).grown hgrow (by simp) (fun k hk => by simp [Value.ownBlock] at hk; omega)
                     | exact (((Below.refl w2.heap.size w2).drew).alloc (Nat.le_refl _) _).grown hgrow (by simp) (fun k hk => by simp [Value.ownBlock] at hk; omega)
                     | exact ((Below.refl w2.heap.size w2).alloc (Nat.le_refl _) _).grown hgrow (by simp) (fun k hk => by simp [Value.ownBlock] at hk; omega)
                 have k4 := HC.out _ (W2.out.1.below hbel (by have := W2.out.2.2.1; omega))
                 have h4 := W2.out.1.below hbel (by have := W2.out.2.2.1; omega)
                 have k6 := HC.out _ ((h4.far (p := ⟨w.heap.size + 1, 0, none⟩) (by show w.heap.size ≠ w.heap.size + 1; omega) (.int .i64 k)).far (p := ⟨w.heap.size + 1, 1, none⟩) (by show w.heap.size ≠ w.heap.size + 1; omega) (.slice (some ⟨g, 0, none⟩) (bs.length + 1) cap))
                 clear h4
                 have hc4 := W2.out.2.1.below hbel (by have := W2.out.2.2.1; omega)
                 have e0 := hc4.cell 0
                 have e1 := hc4.cell 1
                 have ef0 := hc4.frozen 0
                 have ef1 := hc4.frozen 1
                 simp at e0 e1
                 have K4 := hid (And.intro hown (And.intro hbel hc4))
                 clear hown hgrow hat hlt hbel hc4))
          have hz := ((K4.out.2.2.put 0 (.int .i64 k)).put 1 (.slice (some ⟨g, 0, none⟩) (bs.length + 1) cap))
          have z0 := hz.cell 0
          have z1 := hz.cell 1
          simp at z0 z1
          have HB4 := hid (show Below w.heap.size w w4 from W2.out.2.2.2.trans (K4.out.2.1.mono (by have := W2.out.2.2.1; omega)))
          go_wp2_with fail
          rw [N.out]
          exact bodyPost_ret (v := .tuple #[.agg #[.int .i64 k, .slice (some ⟨g, 0, none⟩) (bs.length + 1) cap], .nilIface]) (by simp [results, Tryz.results22, go_sem, z0, z1]) rfl (HPackRes.good rfl (by
            refine Byt.only (S := fun j => j = w.heap.size + 1) (Byt.of_own (bs := c1 :: bs) K4.out.1 rfl) (Only.put (S := fun j => j = w.heap.size + 1) (Only.put (S := fun j => j = w.heap.size + 1) (Only.refl _ _) rfl 0 _) rfl 1 _) (fun j hj e => ?_)
            have := (K4.out.1.lt j hj).1
            have := W2.out.2.2.1
            omega) ((HB4.out.setCell (p := ⟨w.heap.size + 1, 0, none⟩) (by show w.heap.size ≤ w.heap.size + 1; omega) _).setCell (p := ⟨w.heap.size + 1, 1, none⟩) (by show w.heap.size ≤ w.heap.size + 1; omega) _))
end Go.Proofs.YtkkgpdejmcpcpaaGreatDoor

