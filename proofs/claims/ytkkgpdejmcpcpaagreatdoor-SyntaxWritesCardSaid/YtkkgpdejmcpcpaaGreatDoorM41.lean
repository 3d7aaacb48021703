/- Parts: XRSynI, XOpenSq, XFewSq, XSqBack, XLawCBack, XSBackFew. -/
import Derived.Test.YtkkgpdejmcpcpaaGreatDoorM31
import Derived.Test.YtkkgpdejmcpcpaaGreatDoorM32
import Derived.Test.YtkkgpdejmcpcpaaGreatDoorM33
import Derived.Test.YtkkgpdejmcpcpaaGreatDoorM34
import Derived.Test.YtkkgpdejmcpcpaaGreatDoorM40
import Derived.Test.YtkkgpdejmcpcpaaGreatDoorM24
import Derived.Laws.IdiomArrays
import Derived.Test.YtkkgpdejmcpcpaaGreatDoorM22
import Derived.Deep.RegionHeld3
import Derived.Lib.MinMax
import Derived.Deep.RegionHeldLaw
/- Chapter 20: the document's Code at the document's reader and writer; a square that it refuses. -/
namespace Go.Proofs.YtkkgpdejmcpcpaaGreatDoor
open Go.RowKit
theorem xr_reads (b db : Nat) : ∀ W F s, AtXr b db W F s → W.cell? ⟨b, 0, none⟩ = some (.bool true) := by
  rintro W F s ⟨g, cap, h1, _⟩
  rw [h1.blk.cell, cod_0]
theorem xw_reads (b eb : Nat) : ∀ W F s, AtXw b eb W F s → W.cell? ⟨b, 0, none⟩ = some (.bool false) := by
  rintro W F s ⟨v, h1, _⟩
  rw [h1.blk.cell, cod_0]
theorem rrcode20 (b db : Nat) (key : Bool) (vv : Value) (s : SqS) (m0 m1 m2 m3 : Int) (lv v0 v1 v2 v3 : Value) (l0 l1 l2 l3 : List Int) (st : XRd) (w : World) (F : Nat → Prop) (lim : Nat)
    (hn : SqArg w vv s m0 m1 m2 m3 lv v0 v1 v2 v3 l0 l1 l2 l3) (hs : AtXr b db w F st) (ho : st.Ok lim) (hl : lim + 100000 ≤ 1000000000) :
    Calls Tryz.prog 11 #[.pointer (some ⟨b, 0, none⟩), .bool key, vv] w (RSCodeRes xrM (AtXr b db) w F (codeA key zeroS) st) := by
  have hk := (All.run xrM (all_head key 0) st).1
  have AL : ∀ (sd base : Nat) (l : List Int), Sized l sd base → l.any lvOut = false → ∀ s, xrM.run (rsquareA base (ordOf sd) l) s = xrM.run (squareA base (ordOf sd) l) s := fun sd base l _ _ u => (deaf_square deaf_xr base (ordOf sd) l u).symm
  rcases hk with hk | hk | hk | hk
  · exact rc20_rd_0 b (xr_coder b db) (xr_reads b db) AL key vv s m0 m1 m2 m3 lv v0 v1 v2 v3 l0 l1 l2 l3 st w F lim hn hs ho hl hk
  · exact rc20_rd_1 b (xr_coder b db) (xr_reads b db) AL key vv s m0 m1 m2 m3 lv v0 v1 v2 v3 l0 l1 l2 l3 st w F lim hn hs ho hl hk
  · exact rc20_rd_2 b (xr_coder b db) (xr_reads b db) AL key vv s m0 m1 m2 m3 lv v0 v1 v2 v3 l0 l1 l2 l3 st w F lim hn hs ho hl hk
  · exact rc20_rd_3 b (xr_coder b db) (xr_reads b db) AL key vv s m0 m1 m2 m3 lv v0 v1 v2 v3 l0 l1 l2 l3 st w F lim hn hs ho hl hk
theorem rwcode20 (b eb : Nat) (key : Bool) (vv : Value) (s : SqS) (m0 m1 m2 m3 : Int) (lv v0 v1 v2 v3 : Value) (l0 l1 l2 l3 : List Int) (st : XWr) (w : World) (F : Nat → Prop) (lim : Nat)
    (hn : SqArg w vv s m0 m1 m2 m3 lv v0 v1 v2 v3 l0 l1 l2 l3) (hs : AtXw b eb w F st) (ho : st.Ok lim) (hl : lim + 100000 ≤ 1000000000) (hright : RightS key s)
    (h3 : s.kind = 3 → ∀ p ∈ [(v0, l0), (v1, l1), (v2, l2), (v3, l3)], NOff p.1 p.2 w F) (h12 : s.kind = 1 ∨ s.kind = 2 → NOff lv s.large w F) :
    Calls Tryz.prog 11 #[.pointer (some ⟨b, 0, none⟩), .bool key, vv] w (RSCodeRes xwM (AtXw b eb) w F (codeA key s) st) := by
  have hk : s.kind = 0 ∨ s.kind = 1 ∨ s.kind = 2 ∨ s.kind = 3 := by have := hright.k0; have := hright.k3; omega
  have AL : ∀ (sd base : Nat) (l : List Int), Sized l sd base → l.any lvOut = false → ∀ s, xwM.run (rsquareA base (ordOf sd) l) s = xwM.run (squareA base (ordOf sd) l) s := fun sd base l hsd _ u => (echo_square echo_xw base (ordOf sd) l (countL_ord (ord_sized hsd).1) u).symm
  rcases hk with hk | hk | hk | hk
  · exact rc20_wr_0 b (xw_coder b eb) (xw_reads b eb) AL key vv s m0 m1 m2 m3 lv v0 v1 v2 v3 l0 l1 l2 l3 st w F lim hn hs ho hl hright echo_xw h3 h12 hk
  · exact rc20_wr_1 b (xw_coder b eb) (xw_reads b eb) AL key vv s m0 m1 m2 m3 lv v0 v1 v2 v3 l0 l1 l2 l3 st w F lim hn hs ho hl hright echo_xw h3 h12 hk
  · exact rc20_wr_2 b (xw_coder b eb) (xw_reads b eb) AL key vv s m0 m1 m2 m3 lv v0 v1 v2 v3 l0 l1 l2 l3 st w F lim hn hs ho hl hright echo_xw h3 h12 hk
  · exact rc20_wr_3 b (xw_coder b eb) (xw_reads b eb) AL key vv s m0 m1 m2 m3 lv v0 v1 v2 v3 l0 l1 l2 l3 st w F lim hn hs ho hl hright echo_xw h3 h12 hk
set_option maxRecDepth 100000 in
set_option maxHeartbeats 8000000 in
theorem rcode20_bad (b eb : Nat) (key : Bool) (vv : Value) (s : SqS) (m0 m1 m2 m3 : Int) (lv v0 v1 v2 v3 : Value) (l0 l1 l2 l3 : List Int) (st : XWr) (w : World) (F : Nat → Prop)
    (hn : SqArg w vv s m0 m1 m2 m3 lv v0 v1 v2 v3 l0 l1 l2 l3) (hs : AtXw b eb w F st) (hbad : askNo key s ≠ 0) :
    Calls Tryz.prog 11 #[.pointer (some ⟨b, 0, none⟩), .bool key, vv] w fun e w' => e = .returned (.tuple #[zeroV, errA (askNo key s)]) ∧ Below w.heap.size w w' := by
  have hvv := hn.num.v
  have HAS := hid (fun W (hb : Below w.heap.size w W) => rasks_any key vv s m0 m1 m2 m3 lv v0 v1 v2 v3 l0 l1 l2 l3 W (hn.below hb))
  subst hvv
  have hq0 : (askNo key s == 0) = false := by simpa using hbad
  generalize askNo key s = q at *
  have hts := RB.start (M := xwM) (Ok := XWr.Ok) (L := []) (k := s.kind) (mode := s.mode) (m0 := m0) (m1 := m1) (m2 := m2) (m3 := m3) (x := s.x) (y := s.y) (lv := lv) (v0 := v0) (v1 := v1) (v2 := v2) (v3 := v3) (xw_coder b eb) hs (fun p hp => by cases hp)
  have hcr := xw_reads b eb _ _ _ hts.c.c.a
  have hbt : Below w.heap.size w (((w.alloc (.cells #[.int .i64 s.kind, .int .i64 s.mode, .int .i64 m0, .int .i64 m1, .int .i64 m2, .int .i64 m3, .int .i64 s.x, .int .i64 s.y, lv, v0, v1, v2, v3] 42)).alloc (.cells #[.int .i64 0, .int .i64 0, .int .i64 0, .int .i64 0, .int .i64 0, .int .i64 0, .int .i64 0, .int .i64 0, nilS, nilS, nilS, nilS, nilS] 42)).alloc (.cells #[.int .i64 0, nilS] 46)) := (((Below.refl _ _).alloc (Nat.le_refl _) _).alloc (by simp) _).alloc (by simp; omega) _
  have TS := hid (And.intro hts hbt)
  unfold sqV at HAS ⊢
  clear hn hs hts hbt hbad
  go_enter Tryz.func11, Tryz.ntmps11
  go_wp2_with fail
  clear hcr
  generalize (((w.alloc _).alloc _).alloc _ : World) = wq at *
  refine (HAS.out _ TS.out.2).mono ?_
  rintro e wr0 ⟨rfl, hbr0⟩
  have hal0 : Below wr0.heap.size wr0 (wr0.alloc (.cells #[.int .i64 q, nilS] 46)) := (Below.refl _ _).alloc (Nat.le_refl _) _
  have BR0 := hid (And.intro (hbr0.trans (hal0.mono hbr0.size)) (And.intro (Blk.new wr0 46 #[.int .i64 q, nilS]) hbr0.size))
  clear hbr0 hal0
  unfold errA
  go_wp2_with fail
  refine (err_ok q nilS _).mono ?_
  rintro e w9 ⟨rfl, hb4⟩
  have hbr := BR0.out.1.trans (hb4.mono BR0.out.1.size)
  have R := hid (TS.out.1.below (xw_coder b eb) hbr)
  have E := hid (BR0.out.2.1.below hb4 BR0.out.2.1.lt)
  have hlt : w.heap.size + 1 + 1 < wr0.heap.size := by have := TS.out.1.rer.lt; have := BR0.out.2.2; omega
  have BW := hid (TS.out.2.trans (hbr.mono TS.out.2.size))
  generalize wr0.heap.size = ob at *
  clear hb4 hbr BR0 TS HAS
  obtain ⟨e0, e1⟩ := blk2R E.out
  obtain ⟨⟨r0, r1⟩, ⟨r2, r3, r4, r5⟩, ⟨r6, r7, r8⟩, r9, r10, r11, r12⟩ := R.out.res.all4'
  obtain ⟨q0, q1⟩ := blk2R R.out.rer
  have g0 := R.out.rer.frozen 0
  have g1 := R.out.rer.frozen 1
  have f0 := R.out.res.frozen 0
  have f1 := R.out.res.frozen 1
  have f2 := R.out.res.frozen 2
  have f3 := R.out.res.frozen 3
  have f4 := R.out.res.frozen 4
  have f5 := R.out.res.frozen 5
  have f6 := R.out.res.frozen 6
  have f7 := R.out.res.frozen 7
  have f8 := R.out.res.frozen 8
  have f9 := R.out.res.frozen 9
  have f10 := R.out.res.frozen 10
  have f11 := R.out.res.frozen 11
  have f12 := R.out.res.frozen 12
  obtain ⟨hz1, hz2⟩ := fin_z R.out.res R.out.rer (by omega) 0 0 0 0 0 0 0 0 q nilS nilS nilS nilS nilS nilS
  obtain ⟨⟨z0, z1⟩, ⟨z2, z3, z4, z5⟩, ⟨z6, z7, z8⟩, z9, z10, z11, z12⟩ := hz1.all4
  obtain ⟨z13, z14⟩ := blk2R hz2
  have hne : ¬ (ob = w.heap.size + 1) := by omega
  have hne2 : ¬ (w.heap.size + 1 = ob) := fun e => hne e.symm
  obtain ⟨y0, y1⟩ := blk2R (E.out.keep (only13 w9 (w.heap.size + 1) 0 0 0 0 0 0 0 0 nilS nilS nilS nilS nilS) (by show ¬ ob = w.heap.size + 1; omega))
  clear hz1 hz2
  go_wp2_with fail
  go_region
  go_wp2_with fail
  exact bodyPost_ret (v := .tuple #[zeroV, errA q]) (by simp [sqV, errA, results, Tryz.results11, go_sem, z0, z1, z2, z3, z4, z5, z6, z7, z8, z9, z10, z11, z12, z13, z14]) rfl (by
    refine ⟨rfl, ?_⟩
    have h13 := Below.put13 BW.out (ob := w.heap.size + 1) (by omega) 0 0 0 0 0 0 0 0 nilS nilS nilS nilS nilS
    exact ((h13.setCell (p := ⟨w.heap.size + 1 + 1, 0, none⟩) (by show w.heap.size ≤ w.heap.size + 1 + 1; omega) _).setCell (p := ⟨w.heap.size + 1 + 1, 1, none⟩) (by show w.heap.size ≤ w.heap.size + 1 + 1; omega) _).drew)
end Go.Proofs.YtkkgpdejmcpcpaaGreatDoor

/- Arguments opened: a square; a slice of squares. -/
namespace Go.Proofs.YtkkgpdejmcpcpaaGreatDoor
open Go.ChangeShapes Go.WideShapes Go.ChangeAt Go.RowKit Go.Deep

/-- A square's lists, as they lie. -/
structure SqLies (w : World) (s : SqS) (lv v0 v1 v2 v3 : Value) (m0 m1 m2 m3 : Int) (l0 l1 l2 l3 : List Int) : Prop where
  em : s.modes = [m0, m1, m2, m3]
  es : s.small = [l0, l1, l2, l3]
  nl : Nums w lv s.large ∧ s.large.length ≤ maxLen
  n0 : Nums w v0 l0 ∧ l0.length ≤ maxLen
  n1 : Nums w v1 l1 ∧ l1.length ≤ maxLen
  n2 : Nums w v2 l2 ∧ l2.length ≤ maxLen
  n3 : Nums w v3 l3 ∧ l3.length ≤ maxLen
def SquR (w : World) (s : SqS) (cs : List Value) : Prop :=
  ∃ lv v0 v1 v2 v3 m0 m1 m2 m3 l0 l1 l2 l3, cs = [.int .i64 s.kind, .int .i64 s.mode, .int .i64 m0, .int .i64 m1, .int .i64 m2, .int .i64 m3, .int .i64 s.x, .int .i64 s.y, lv, v0, v1, v2, v3] ∧ SqLies w s lv v0 v1 v2 v3 m0 m1 m2 m3 l0 l1 l2 l3
instance : Inhabited SqS := ⟨bareS 0⟩
section
variable {H : Type} {enc : TypeId × Value → H} {w : World} {base : Nat} {spare : Nat → Bool} {held : Bool}
theorem ints_of_trod {fuel : Nat} {v : Value} {x : DataW H × List MemPlace} (h : DataW.trod enc Tryz.prog w base spare held fuel 33 [v] = some x) : ∃ l : List Int, Nums w v l ∧ l.length ≤ maxLen := by
  have hv : ∃ A len cap, v = .slice A len cap := by
    rcases open_slice Tryz.underlying33 h with ⟨h1, _⟩ | ⟨a, l, c, _, _, _, _, h1, _⟩
    · injection h1 with h1; exact ⟨_, _, _, h1⟩
    · injection h1 with h1; exact ⟨_, _, _, h1⟩
  obtain ⟨A', len', cap', rfl⟩ := hv
  obtain ⟨bs, h1, h2, h3⟩ := open_ints2 (d := x.1) (p := x.2) ⟨fuel, by simpa [Value.cells] using h⟩
  subst h1
  exact ⟨bs, nums_of_els h2, h3⟩
set_option maxRecDepth 100000 in
set_option maxHeartbeats 1000000 in
theorem sq_of_trod {fuel : Nat} {cs : List Value} {x : DataW H × List MemPlace} (h : DataW.trod enc Tryz.prog w base spare held fuel 36 cs = some x) (hl : cs.length = 13) : ∃ s : SqS, SquR w s cs := by
  obtain ⟨ys, n', _, _, _, hyl, hfd⟩ := DataW.trod_struct Tryz.underlying36 h
  have c1 : Tryz.prog.cellsOf 3 = 1 := by kernel_rfl
  have c2 : Tryz.prog.cellsOf 30 = 4 := by kernel_rfl
  have c3 : Tryz.prog.cellsOf 32 = 2 := by kernel_rfl
  have c4 : Tryz.prog.cellsOf 33 = 1 := by kernel_rfl
  have c5 : Tryz.prog.cellsOf 34 = 4 := by kernel_rfl
  match cs, hl with
  | [a0, a1, a2, a3, a4, a5, a6, a7, a8, a9, a10, a11, a12], _ =>
    match ys, hyl with
    | [y0, y1, y2, y3, y4, y5], _ =>
      have g0 := hfd 0 _ rfl
      have g1 := hfd 1 _ rfl
      have g2 := hfd 2 _ rfl
      have g3 := hfd 3 _ rfl
      have g4 := hfd 4 _ rfl
      have g5 := hfd 5 _ rfl
      simp [c1, c2, c3, c4, c5] at g0 g1 g2 g3 g4 g5
      obtain ⟨z0, e0, _, _⟩ := DataW.trod_int Tryz.underlying3 g0
      obtain ⟨z1, e1, _, _⟩ := DataW.trod_int Tryz.underlying3 g1
      obtain ⟨_, _, _, _, _, _, k0, k1, k2, k3⟩ := trod_array4 Tryz.underlying30 c1 g2
      obtain ⟨z2, e2, _, _⟩ := DataW.trod_int Tryz.underlying3 k0
      obtain ⟨z3, e3, _, _⟩ := DataW.trod_int Tryz.underlying3 k1
      obtain ⟨z4, e4, _, _⟩ := DataW.trod_int Tryz.underlying3 k2
      obtain ⟨z5, e5, _, _⟩ := DataW.trod_int Tryz.underlying3 k3
      obtain ⟨us, n2, _, _, _, hul, hud⟩ := DataW.trod_struct Tryz.underlying32 g3
      match us, hul with
      | [u0, u1], _ =>
        have q0 := hud 0 _ rfl
        have q1 := hud 1 _ rfl
        simp [c1] at q0 q1
        obtain ⟨z6, e6, _, _⟩ := DataW.trod_int Tryz.underlying3 q0
        obtain ⟨z7, e7, _, _⟩ := DataW.trod_int Tryz.underlying3 q1
        obtain ⟨ll, hl1, hl2⟩ := ints_of_trod g4
        obtain ⟨_, _, _, _, _, _, p0, p1, p2, p3⟩ := trod_array4 Tryz.underlying34 c4 g5
        obtain ⟨l0, h01, h02⟩ := ints_of_trod p0
        obtain ⟨l1, h11, h12⟩ := ints_of_trod p1
        obtain ⟨l2, h21, h22⟩ := ints_of_trod p2
        obtain ⟨l3, h31, h32⟩ := ints_of_trod p3
        simp at e0 e1 e2 e3 e4 e5 e6 e7
        subst e0 e1 e2 e3 e4 e5 e6 e7
        exact ⟨{ bareS z0 with mode := z1, modes := [z2, z3, z4, z5], x := z6, y := z7, large := ll, small := [l0, l1, l2, l3] }, a8, a9, a10, a11, a12, z2, z3, z4, z5, l0, l1, l2, l3, rfl, rfl, rfl, ⟨hl1, hl2⟩, ⟨h01, h02⟩, ⟨h11, h12⟩, ⟨h21, h22⟩, ⟨h31, h32⟩⟩
theorem open_squares {A : Option Addr} {len cap : Nat} {d : DataW H} {p : List MemPlace} (h : DataW.Trod enc Tryz.prog w base spare held 22 (.slice A len cap) d p) :
    ∃ l : List SqS, l.length = len ∧ Els w 13 (SquR w) (.slice A len cap) l ∧ l.length ≤ maxLen :=
  open_gen Tryz.underlying22 (by kernel_rfl) (by omega) (SquR w) (fun fuel cs x hx hl => sq_of_trod hx hl) h
set_option maxRecDepth 100000 in
theorem open_square {r : Reach} {b0 : Nat} {v : Value} {d : DataW H} {p : List MemPlace} (hw : Value.okWide Tryz.prog w r b0 36 v) (h : DataW.Trod enc Tryz.prog w base spare held 36 v d p) :
    ∃ (s : SqS) (lv v0 v1 v2 v3 : Value) (m0 m1 m2 m3 : Int) (l0 l1 l2 l3 : List Int), v = sqV s.kind s.mode m0 m1 m2 m3 s.x s.y lv v0 v1 v2 v3 ∧ SqLies w s lv v0 v1 v2 v3 m0 m1 m2 m3 l0 l1 l2 l3 := by
  obtain ⟨cs, rfl, hs⟩ := okWide_struct Tryz.underlying36 hw
  have h5 : Tryz.prog.cellsOf 36 = 13 := by kernel_rfl
  obtain ⟨fuel, hf⟩ := h
  have hcl : cs.toList.length = 13 := by simp; omega
  rw [show (Value.agg cs).cells.toList = cs.toList from rfl] at hf
  obtain ⟨s, lv, v0, v1, v2, v3, m0, m1, m2, m3, l0, l1, l2, l3, he, hr⟩ := sq_of_trod hf hcl
  refine ⟨s, lv, v0, v1, v2, v3, m0, m1, m2, m3, l0, l1, l2, l3, ?_, hr⟩
  unfold sqV
  rw [← he]
end
end Go.Proofs.YtkkgpdejmcpcpaaGreatDoor

/- Chapter 20: are squares few and small? -/
namespace Go.Proofs.YtkkgpdejmcpcpaaGreatDoor
open Go.RowKit

def weighN (s : SqS) : Nat := sumL (s.large.length :: s.small.map List.length)
theorem sum5 {n0 n1 n2 n3 n4 : Nat} : sumL [n0, n1, n2, n3, n4] ≤ 100005 ∧ (sumL [n0, n1, n2, n3, n4] ≤ 20000 → n0 ≤ 20000 ∧ n1 ≤ 20000 ∧ n2 ≤ 20000 ∧ n3 ≤ 20000 ∧ n4 ≤ 20000) := by
  simp only [sumL]
  omega
theorem SqLies.weigh {w : World} {s : SqS} {lv v0 v1 v2 v3 : Value} {m0 m1 m2 m3 : Int} {l0 l1 l2 l3 : List Int} (h : SqLies w s lv v0 v1 v2 v3 m0 m1 m2 m3 l0 l1 l2 l3) : weighN s = sumL [s.large.length, l0.length, l1.length, l2.length, l3.length] := by
  unfold weighN
  rw [h.es]
  rfl
theorem SqLies.below {w w' : World} {s : SqS} {lv v0 v1 v2 v3 : Value} {m0 m1 m2 m3 : Int} {l0 l1 l2 l3 : List Int} (h : SqLies w s lv v0 v1 v2 v3 m0 m1 m2 m3 l0 l1 l2 l3) (hb : Below w.heap.size w w') : SqLies w' s lv v0 v1 v2 v3 m0 m1 m2 m3 l0 l1 l2 l3 :=
  ⟨h.em, h.es, ⟨h.nl.1.below hb, h.nl.2⟩, ⟨h.n0.1.below hb, h.n0.2⟩, ⟨h.n1.1.below hb, h.n1.2⟩, ⟨h.n2.1.below hb, h.n2.2⟩, ⟨h.n3.1.below hb, h.n3.2⟩⟩
theorem SquR.below {w w' : World} {s : SqS} {cs : List Value} (h : SquR w s cs) (hb : Below w.heap.size w w') : SquR w' s cs := by
  obtain ⟨lv, v0, v1, v2, v3, m0, m1, m2, m3, l0, l1, l2, l3, e, h⟩ := h
  exact ⟨lv, v0, v1, v2, v3, m0, m1, m2, m3, l0, l1, l2, l3, e, h.below hb⟩
/-- A square of the argument, as it lies. -/
theorem square_at {w : World} {A : Option Addr} {n c : Nat} {l : List SqS} (h : Els w 13 (SquR w) (.slice A n c) l) {i : Nat} {s : SqS} (hz : l[i]? = some s) :
    ∃ b off lv v0 v1 v2 v3 m0 m1 m2 m3 l0 l1 l2 l3, A = some ⟨b, off, none⟩ ∧ b < w.heap.size ∧ SqLies w s lv v0 v1 v2 v3 m0 m1 m2 m3 l0 l1 l2 l3 ∧
      ∀ W, Below w.heap.size w W → ((W.cell? ⟨b, off + i * 13, none⟩ = some (.int .i64 s.kind) ∧ W.cell? ⟨b, off + i * 13 + 1, none⟩ = some (.int .i64 s.mode)) ∧ (W.cell? ⟨b, off + i * 13 + 2, none⟩ = some (.int .i64 m0) ∧ W.cell? ⟨b, off + i * 13 + 3, none⟩ = some (.int .i64 m1) ∧ W.cell? ⟨b, off + i * 13 + 4, none⟩ = some (.int .i64 m2) ∧ W.cell? ⟨b, off + i * 13 + 5, none⟩ = some (.int .i64 m3)) ∧
      (W.cell? ⟨b, off + i * 13 + 6, none⟩ = some (.int .i64 s.x) ∧ W.cell? ⟨b, off + i * 13 + 7, none⟩ = some (.int .i64 s.y) ∧ W.cell? ⟨b, off + i * 13 + 8, none⟩ = some lv) ∧ (W.cell? ⟨b, off + i * 13 + 9, none⟩ = some v0 ∧ W.cell? ⟨b, off + i * 13 + 10, none⟩ = some v1 ∧ W.cell? ⟨b, off + i * 13 + 11, none⟩ = some v2 ∧ W.cell? ⟨b, off + i * 13 + 12, none⟩ = some v3)) := by
  obtain ⟨b, off, cs, e, hb, _, ⟨lv, v0, v1, v2, v3, m0, m1, m2, m3, l0, l1, l2, l3, rfl, hs⟩, hc⟩ := Els.at_ h hz
  refine ⟨b, off, lv, v0, v1, v2, v3, m0, m1, m2, m3, l0, l1, l2, l3, e, hb, hs, fun W hW => ?_⟩
  have k : ∀ (j : Nat) (u : Value), [Value.int .i64 s.kind, .int .i64 s.mode, .int .i64 m0, .int .i64 m1, .int .i64 m2, .int .i64 m3, .int .i64 s.x, .int .i64 s.y, lv, v0, v1, v2, v3][j]? = some u → W.cell? ⟨b, off + i * 13 + j, none⟩ = some u := fun j u hu =>
    (World.cell?_of_block (w := w) (a := ⟨b, off + i * 13 + j, none⟩) (hW.block b hb)).trans (hc j u hu)
  exact ⟨⟨k 0 _ rfl, k 1 _ rfl⟩, ⟨k 2 _ rfl, k 3 _ rfl, k 4 _ rfl, k 5 _ rfl⟩, ⟨k 6 _ rfl, k 7 _ rfl, k 8 _ rfl⟩, k 9 _ rfl, k 10 _ rfl, k 11 _ rfl, k 12 _ rfl⟩
set_option maxRecDepth 100000 in
set_option maxHeartbeats 2000000 in
theorem fewsq_any (x : Value) (l : List SqS) (w : World) (hx : Els w 13 (SquR w) x l) (hl : l.length ≤ maxLen) :
    Calls Tryz.prog 7 #[x] w fun e w' => ∃ q : Bool, e = .returned (.bool q) ∧ Below w.heap.size w w' ∧ (q = true → l.length ≤ 100 ∧ ∀ s ∈ l, weighN s ≤ 20000) := by
  obtain ⟨A, c, rfl, _⟩ := hx.form
  have X := hid (And.intro hx hl)
  have hl63 : (l.length : Int) ≤ 9223372036854775807 := by unfold maxLen at hl; omega
  clear hx hl
  go_enter Tryz.func7, Tryz.ntmps7
  go_wp2_with fail
  go_loopg [3, 4] 100 (fun k nv iv wr => ∃ (i n : Nat), i + k = 100 ∧ iv = .int .i64 i ∧ nv = .int .i64 n ∧ n ≤ 100005 * i ∧ i ≤ l.length ∧ (∀ j s, j < i → l[j]? = some s → weighN s ≤ n) ∧ Below w.heap.size w wr)
  case atStart => exact ⟨0, 0, by omega, rfl, rfl, by omega, by omega, fun j zs hj => by omega, Below.refl _ _⟩
  case round =>
    obtain ⟨i, n, hk, rfl, rfl, hn, hil, hall, hbel⟩ := hrel
    have HA := hid (And.intro hall (And.intro hk hil))
    have BR := hid hbel
    clear hbel
    have hcase : (decide ((i : Int) < (l.length : Int)) = false ∧ i = l.length) ∨ (i < l.length ∧ decide ((i : Int) < (l.length : Int)) = true ∧ decide ((i : Int) < 100) = false) ∨ (i < l.length ∧ decide ((i : Int) < (l.length : Int)) = true ∧ decide ((i : Int) < 100) = true) := by
      by_cases h1 : i < l.length
      · have e1 : decide ((i : Int) < (l.length : Int)) = true := by simp; omega
        by_cases h2 : i < 100
        · exact .inr (.inr ⟨h1, e1, by simp; omega⟩)
        · exact .inr (.inl ⟨h1, e1, by simp; omega⟩)
      · exact .inl ⟨by simp; omega, by omega⟩
    have hnb : (0 : Int) ≤ (n : Int) ∧ (n : Int) ≤ 20000000 := by omega
    rcases hcase with ⟨h1, h2⟩ | ⟨h1, h2, h3⟩ | ⟨h1, h2, h3⟩
    · have h9 : decide (i < l.length) = false := decide_eq_false (by omega)
      have hq : (decide ((l.length : Int) ≤ 100) = true ∧ l.length ≤ 100) ∨ decide ((l.length : Int) ≤ 100) = false := by
        by_cases h : l.length ≤ 100
        · exact .inl ⟨by simp; omega, h⟩
        · exact .inr (by simp; omega)
      have H2 := hid h2
      clear hall hk hil h2 hn
      rcases hq with ⟨hq, hq2⟩ | hq
      · have HQ := hid hq2
        clear hq2
        go_wp2_with fail
        go_ret
        refine ⟨_, rfl, BR.out, fun h => ⟨HQ.out, fun zs hz => ?_⟩⟩
        obtain ⟨j, hj⟩ := List.mem_iff_getElem?.1 hz
        have hjl := (List.getElem?_eq_some_iff.1 hj).1
        have := HA.out.1 j zs (by have := H2.out; omega) hj
        have h5 : (n : Int) ≤ 20000 := by simpa using h
        omega
      · go_wp2_with fail
        go_ret
        exact ⟨_, rfl, BR.out, fun h => by simp at h⟩
    · have h9 : decide (i < l.length) = true := decide_eq_true h1
      have hq : decide ((l.length : Int) ≤ 100) = false := by
        have : i = 100 := by simp only [decide_eq_false_iff_not] at h3; omega
        simp; omega
      clear hall hk hil hn
      go_wp2_with fail
      go_ret
      exact ⟨_, rfl, BR.out, fun h => by simp at h⟩
    · have h9 : decide (i < l.length) = true := decide_eq_true h1
      obtain ⟨s, hz⟩ : ∃ s, l[i]? = some s := ⟨l[i], List.getElem?_eq_getElem h1⟩
      obtain ⟨b4, o4, lv, v0, v1, v2, v3, m0, m1, m2, m3, l0, l1, l2, l3, rfl, _, hs, hcell⟩ := square_at X.out.1 hz
      obtain ⟨⟨r0, r1⟩, ⟨r2, r3, r4, r5⟩, ⟨r6, r7, r8⟩, r9, r10, r11, r12⟩ := hcell wr BR.out
      obtain ⟨A1, c1, rfl, _⟩ := hs.nl.1.form
      obtain ⟨A2, c2, rfl, _⟩ := hs.n0.1.form
      obtain ⟨A3, c3, rfl, _⟩ := hs.n1.1.form
      obtain ⟨A4, c4, rfl, _⟩ := hs.n2.1.form
      obtain ⟨A5, c5, rfl, _⟩ := hs.n3.1.form
      have k0 : (0 : Int) ≤ (i : Int) := by omega
      have k1 : (i : Int) < (l.length : Int) := by omega
      have hi100 : i < 100 := by simp only [decide_eq_true_eq] at h3; omega
      have HZ := hid (And.intro hz (And.intro h1 (And.intro hn hs)))
      have hws := hs.weigh
      have h5 := (sum5 (n0 := s.large.length) (n1 := l0.length) (n2 := l1.length) (n3 := l2.length) (n4 := l3.length)).1
      have HS := hid (And.intro hws h5)
      obtain ⟨tot, ht⟩ : ∃ q : Nat, q = sumL [s.large.length, l0.length, l1.length, l2.length, l3.length] := ⟨_, rfl⟩
      have HW := hid (fun W => weighs_any s.kind s.mode m0 m1 m2 m3 s.x s.y A1 A2 A3 A4 A5 s.large.length l0.length l1.length l2.length l3.length c1 c2 c3 c4 c5 W hs.nl.2 hs.n0.2 hs.n1.2 hs.n2.2 hs.n3.2)
      have htb : (tot : Int) ≤ 100005 := by omega
      rw [← ht] at HW HS
      clear hall hk hil hz hn hs hcell ht hws h5
      go_wp2_with fail
      refine (HW.out _).mono ?_
      rintro e w4 ⟨rfl, hb4⟩
      have B4 := hid (BR.out.trans (hb4.mono BR.out.size))
      clear hb4
      go_wp2_with fail
      go_roundg (gk - 1)
      case measure => have := HA.out.2; omega
      case rel =>
        refine ⟨i + 1, n + tot, by have := HA.out.2; omega, by go_num, by go_num, by have := HZ.out.2.2.1; have := HS.out.2; omega, by have := HZ.out.2.1; omega, ?_, B4.out⟩
        intro j ys hj hy
        rcases Nat.lt_or_ge j i with h | h
        · have := HA.out.1 j ys h hy
          omega
        · obtain rfl : j = i := by omega
          rw [HZ.out.1] at hy
          injection hy with hy
          subst hy
          rw [HS.out.1]
          omega
end Go.Proofs.YtkkgpdejmcpcpaaGreatDoor

/- Chapter 20, plain: squares coded one behind the other come back. -/
namespace Go.Proofs.YtkkgpdejmcpcpaaGreatDoor
open Go.RowKit

theorem sqW_nil : sqW [] = Wr.new := rfl
theorem sqW_snoc (D : List (Bool × SqS)) (q : Bool × SqS) : sqW (D ++ [q]) = (wrM.run (codeA q.1 (fixS q.2)) (sqW D)).2 := by
  unfold sqW
  rw [List.foldl_append]
  rfl
theorem bk_S {f : Enc} (hf : 1 ≤ f.r) {key : Bool} {z z' : SqS} (h : (codeA key z).Shape (codeA key z')) (s : Wr) (t : Rd) : Bk f s t (wrM.run (codeA key z) s) (rdM.run (codeA key z') t) :=
  Bk.run hf _ _ (ctx_code key z) h s t
theorem good_stepS (q : Bool × SqS) (s : Wr) (h : GoodW s) : Inside s.e (wrM.run (codeA q.1 (fixS q.2)) s).2.e ∧ GoodW (wrM.run (codeA q.1 (fixS q.2)) s).2 := by
  have h1 := bk_S (f := ⟨[], 0, 1⟩) (by show 1 ≤ 1; omega) (Shape.refl (codeA q.1 (fixS q.2))) s (Rd.new []) h
  exact ⟨h1.1, h1.2.1⟩
theorem good_fromS : ∀ (D : List (Bool × SqS)) (s : Wr), GoodW s → GoodW (D.foldl (fun s q => (wrM.run (codeA q.1 (fixS q.2)) s).2) s) ∧ Inside s.e (D.foldl (fun s q => (wrM.run (codeA q.1 (fixS q.2)) s).2) s).e
  | [], s, h => ⟨h, Inside.refl _⟩
  | q :: D, s, h => by
    have h1 := good_stepS q s h
    have h2 := good_fromS D _ h1.2
    exact ⟨h2.1, h1.1.trans h2.2⟩
theorem good_newS : GoodW Wr.new := ⟨pok_first, by show 16777216 ≤ 4294967295; omega, by show 4294967295 ≤ 4294967295; omega, fit_new⟩
theorem good_sqW (D : List (Bool × SqS)) : GoodW (sqW D) := (good_fromS D Wr.new good_newS).1
theorem in_sqW (D : List (Bool × SqS)) (k : Nat) : Inside (sqW (D.take k)).e (sqW D).e := by
  have h := (good_fromS (D.drop k) (sqW (D.take k)) (good_sqW _)).2
  have e : (D.drop k).foldl (fun s q => (wrM.run (codeA q.1 (fixS q.2)) s).2) (sqW (D.take k)) = sqW D := by
    unfold sqW
    rw [← List.foldl_append, List.take_append_drop]
  rw [e] at h
  exact h
/-- A writer tells the parts, with whatever lists the code fills in. -/
theorem wr_fix {key : Bool} {s : SqS} (h : RightS key s) (h4 : Four s) (t : Wr) : (wrM.run (codeA key (fixS s)) t).1 = (none, partsS s) := by
  rw [fix_run echo_wr h]
  exact echo_told echo_wr h h4 t
/-- A reader of the bytes tells the next square. -/
theorem back_S (D : List (Bool × SqS)) (k : Nat) (key : Bool) (s : SqS) (hz : D[k]? = some (key, s)) (h : RightS key s) (h4 : Four s) (t : Rd) (ht : Tr (sqW D).e (sqW (D.take k)) t) :
    (rdM.run (codeA key zeroS) t).1 = (none, partsS s) ∧ Tr (sqW D).e (sqW (D.take (k + 1))) (rdM.run (codeA key zeroS) t).2 := by
  have hf : 1 ≤ (sqW D).e.r := by have := (good_sqW D).r0; omega
  have ek : D.take (k + 1) = D.take k ++ [(key, s)] := by
    rw [List.take_add_one, hz]
    rfl
  have es : sqW (D.take (k + 1)) = (wrM.run (codeA key (fixS s)) (sqW (D.take k))).2 := by rw [ek, sqW_snoc]
  have hin := in_sqW D (k + 1)
  rw [es] at hin ⊢
  have h1 := (bk_S hf (fix_shape h h4) (sqW (D.take k)) t (good_sqW _)).2.2 ht hin
  exact ⟨by rw [← h1.1, wr_fix h h4], h1.2⟩
theorem back_trS (D : List (Bool × SqS)) : Tr (sqW D).e (sqW (D.take 0)) (Rd.new (sqW D).e.bytes) := ⟨rfl, Track.new _⟩
end Go.Proofs.YtkkgpdejmcpcpaaGreatDoor

/- CoefBack: plain; the walk. -/
/- CoefBack, plain: squares coded one behind the other come back; and a coder with a row of one's own. -/
namespace Go.Proofs.YtkkgpdejmcpcpaaGreatDoor
open Go.RowKit

def sdL (zs : List Int) : Nat := if zs.length = 16 then 4 else 8
def baseL (zs : List Int) : Nat := if zs.length = 16 then 14 else 39
theorem sized_L {zs : List Int} (h : checkNo zs = 0) : Sized zs (sdL zs) (baseL zs) ∧ zs.any lvOut = false := by
  unfold checkNo at h
  by_cases h1 : zs.length ≠ 16 ∧ zs.length ≠ 64
  · rw [if_pos h1] at h; omega
  · rw [if_neg h1] at h
    have h2 : zs.any lvOut = false := by
      cases hq : zs.any lvOut
      · rfl
      · rw [hq] at h; exact absurd h (by decide)
    refine ⟨?_, h2⟩
    unfold sdL baseL
    by_cases h3 : zs.length = 16
    · rw [if_pos h3, if_pos h3]; exact .inl ⟨rfl, rfl, h3⟩
    · rw [if_neg h3, if_neg h3]; exact .inr ⟨rfl, rfl, by omega⟩
theorem sized_len {zs l : List Int} {sd base : Nat} (h : Sized zs sd base) (hl : l.length = zs.length) : Sized l sd base := by
  unfold Sized at h ⊢
  rw [hl]
  exact h
def sqL (zs : List Int) : Ask SqR := squareA (baseL zs) (ordOf (sdL zs)) zs
theorem ctx_L (zs l : List Int) : (squareA (baseL zs) (ordOf (sdL zs)) l).Ctx := ctx_square _ (by unfold baseL; split <;> omega) _ _
/-- The writer behind these squares. -/
def wsq (D : List (List Int)) : Wr := D.foldl (fun s zs => (wrM.run (sqL zs) s).2) Wr.new
theorem wsq_nil : wsq [] = Wr.new := rfl
theorem wsq_snoc (D : List (List Int)) (zs : List Int) : wsq (D ++ [zs]) = (wrM.run (sqL zs) (wsq D)).2 := by
  unfold wsq
  rw [List.foldl_append]
  rfl
theorem bk_L {f : Enc} (hf : 1 ≤ f.r) (zs l : List Int) (hl : l.length = zs.length) (s : Wr) (t : Rd) : Bk f s t (wrM.run (sqL zs) s) (rdM.run (squareA (baseL zs) (ordOf (sdL zs)) l) t) :=
  Bk.run hf _ _ (ctx_L zs zs) (shape_square _ _ _ _ hl.symm) s t
theorem good_step (zs : List Int) (s : Wr) (h : GoodW s) : Inside s.e (wrM.run (sqL zs) s).2.e ∧ GoodW (wrM.run (sqL zs) s).2 := by
  have h1 := bk_L (f := ⟨[], 0, 1⟩) (by show 1 ≤ 1; omega) zs zs rfl s (Rd.new []) h
  exact ⟨h1.1, h1.2.1⟩
theorem good_from : ∀ (D : List (List Int)) (s : Wr), GoodW s → GoodW (D.foldl (fun s zs => (wrM.run (sqL zs) s).2) s) ∧ Inside s.e (D.foldl (fun s zs => (wrM.run (sqL zs) s).2) s).e
  | [], s, h => ⟨h, Inside.refl _⟩
  | zs :: D, s, h => by
    have h1 := good_step zs s h
    have h2 := good_from D _ h1.2
    exact ⟨h2.1, h1.1.trans h2.2⟩
theorem good_new : GoodW Wr.new := ⟨pok_first, by show 16777216 ≤ 4294967295; omega, by show 4294967295 ≤ 4294967295; omega, fit_new⟩
theorem good_wsq (D : List (List Int)) : GoodW (wsq D) := (good_from D Wr.new good_new).1
theorem in_wsq (D : List (List Int)) (k : Nat) : Inside (wsq (D.take k)).e (wsq D).e := by
  have h := (good_from (D.drop k) (wsq (D.take k)) (good_wsq _)).2
  have e : (D.drop k).foldl (fun s zs => (wrM.run (sqL zs) s).2) (wsq (D.take k)) = wsq D := by
    unfold wsq
    rw [← List.foldl_append, List.take_append_drop]
  rw [e] at h
  exact h
/-- A reader of the bytes tells the next square. -/
theorem back_sq (D : List (List Int)) (k : Nat) (zs : List Int) (hz : D[k]? = some zs) (hc : checkNo zs = 0) (t : Rd) (ht : Tr (wsq D).e (wsq (D.take k)) t) (l : List Int) (hl : l.length = zs.length) :
    (rdM.run (squareA (baseL zs) (ordOf (sdL zs)) l) t).1 = (none, zs) ∧ Tr (wsq D).e (wsq (D.take (k + 1))) (rdM.run (squareA (baseL zs) (ordOf (sdL zs)) l) t).2 := by
  have hf : 1 ≤ (wsq D).e.r := by have := (good_wsq D).r0; omega
  have hk := (List.getElem?_eq_some_iff.1 hz).1
  have ek : D.take (k + 1) = D.take k ++ [zs] := by
    rw [List.take_add_one, hz]
    rfl
  have es : wsq (D.take (k + 1)) = (wrM.run (sqL zs) (wsq (D.take k))).2 := by rw [ek, wsq_snoc]
  have hin := in_wsq D (k + 1)
  rw [es] at hin ⊢
  have h := (bk_L hf zs l hl (wsq (D.take k)) t (good_wsq _)).2.2 ht hin
  obtain ⟨hsd, hv⟩ := sized_L hc
  obtain ⟨ho, _, hn⟩ := ord_sized hsd
  have e1 : (wrM.run (sqL zs) (wsq (D.take k))).1 = (none, zs) := by
    rw [echo_wr.run]
    refine say_square _ _ zs ho ?_ hn
    intro v hvm
    apply lvOut_false
    rw [Bool.eq_false_iff]
    intro h2
    have := List.any_eq_true.2 ⟨v, hvm, h2⟩
    rw [hv] at this
    exact Bool.noConfusion this
  exact ⟨by rw [← h.1, e1], h.2⟩
theorem back_tr (D : List (List Int)) : Tr (wsq D).e (wsq (D.take 0)) (Rd.new (wsq D).e.bytes) := ⟨rfl, Track.new _⟩
/-- A number between -9 and 9. -/
theorem small_in {l : List Int} (h : ∀ v ∈ l, -9 ≤ v ∧ v ≤ 9) : l.any lvOut = false := by
  rw [Bool.eq_false_iff]
  intro h2
  obtain ⟨v, hv, hp⟩ := List.any_eq_true.1 h2
  have := h v hv
  rw [lvOut_true (by omega) (by omega)] at hp
  exact Bool.noConfusion hp

/-! ### A coder and a row of slices -/
theorem row_farC {w w' : World} {base n : Nat} {t : TypeId} {v : Value} {xs : List Value} {S : Nat → Prop} (h : w.ownsRow base t 1 v n xs) (ho : Only S w w') (hv : ∀ k, v.ownBlock = some k → ¬ S k) : w'.ownsRow base t 1 v n xs := by
  refine ⟨h.1, ?_⟩
  rcases h.2 with hn | ⟨g, cap, cur, hv', hb, hg, hr⟩
  · exact .inl hn
  · refine .inr ⟨g, cap, cur, hv', hb, ?_, hr⟩
    have hlt := (Array.getElem?_eq_some_iff.1 hg).1
    rw [ho.block g hlt (hv g (by rw [hv']; rfl))]
    exact hg
section
variable {σ : Type} {M : Mach σ} {fB fF : FuncId} {me : Value} {At : World → (Nat → Prop) → σ → Prop} {Ok : σ → Nat → Prop} {w W W' : World} {s s' : σ} {F F' : Nat → Prop} {ty : TypeId} {v : Value} {n : Nat} {xs : List Value}
structure DoneAt (At : World → (Nat → Prop) → σ → Prop) (ty : TypeId) (v : Value) (n : Nat) (xs : List Value) (w : World) (s : σ) (W : World) (F : Nat → Prop) : Prop where
  c : OwnC At w s W F
  own : W.ownsRow w.heap.size ty 1 v n xs
  far : ∀ k, v.ownBlock = some k → ¬ F k
theorem DoneAt.below (H : IsCoder M fB fF me At Ok) (h : DoneAt At ty v n xs w s W F) (hb : Below W.heap.size W W') : DoneAt At ty v n xs w s W' F :=
  ⟨h.c.below H hb, row_farC h.own (Only.of_below (S := fun _ => False) hb) (fun _ _ h => h), h.far⟩
theorem DoneAt.code (h : DoneAt At ty v n xs w s W F) (c : CW At W F s' W' F') : DoneAt At ty v n xs w s' W' F' :=
  ⟨h.c.code c, row_farC h.own c.o h.far, fun k hk hF => by
    rcases c.f k hF with h1 | h1
    · exact h.far k hk h1
    · have := (h.own.lt k hk).2; omega⟩
theorem DoneAt.only {S : Nat → Prop} (H : IsCoder M fB fF me At Ok) (h : DoneAt At ty v n xs w s W F) (o : Only S W W') (hF : ∀ k, F k → ¬ S k) (hv : ∀ k, v.ownBlock = some k → ¬ S k) (hw : ∀ k, S k → w.heap.size ≤ k) : DoneAt At ty v n xs w s W' F :=
  ⟨⟨H.keep _ _ _ _ _ h.c.a o hF, h.c.lo, h.c.bel.trans ⟨o.os, o.tape, o.output, o.size, fun k hk => o.block k (by have := h.c.bel.size; omega) (fun e => by have := hw k e; omega)⟩⟩, row_farC h.own o hv, h.far⟩
theorem DoneAt.grown (H : IsCoder M fB fF me At Ok) (h : DoneAt At ty v n xs w s W F) {g cap n' : Nat} {xs' : List Value} (hg : W.grownBy W' v.ownBlock) (ho : W'.ownsRow w.heap.size ty 1 (.slice (some ⟨g, 0, none⟩) n' cap) n' xs') (hat : v.ownBlock = some g ∨ g = W.heap.size) :
    DoneAt At ty (.slice (some ⟨g, 0, none⟩) n' cap) n' xs' w s W' F := by
  have o : Only (fun k => v.ownBlock = some k) W W' := ⟨hg.os, hg.tape, hg.output, hg.size, fun k hk hn => hg.block k hk (fun e => hn e.symm)⟩
  refine ⟨⟨H.keep _ _ _ _ _ h.c.a o (fun k hk hv => h.far k hv hk), h.c.lo, h.c.bel.trans ⟨o.os, o.tape, o.output, o.size, fun k hk => o.block k (by have := h.c.bel.size; omega) (fun e => by have := (h.own.lt k e).1; omega)⟩⟩, ho, fun k hk hF => ?_⟩
  simp [Value.ownBlock] at hk
  subst hk
  rcases hat with e | e
  · exact h.far _ e hF
  · have := H.there _ _ _ _ h.c.a hF; omega
end
/-- The slices read as these squares, all of them such as may be coded. -/
def Squares (w : World) (xs : List Value) (D : List (List Int)) : Prop := xs.length = D.length ∧ ∀ (k : Nat) (zs : List Int), D[k]? = some zs → checkNo zs = 0 ∧ ∃ x, xs[k]? = some x ∧ Nums w x zs
theorem Squares.nil (w : World) : Squares w [] [] := ⟨rfl, fun k zs h => by simp at h⟩
theorem Squares.snoc {w : World} {xs : List Value} {D : List (List Int)} {x : Value} {zs : List Int} (h : Squares w xs D) (hc : checkNo zs = 0) (hx : Nums w x zs) : Squares w (xs ++ [x]) (D ++ [zs]) := by
  refine ⟨by simp [h.1], fun k q hk => ?_⟩
  by_cases e : k < D.length
  · rw [List.getElem?_append_left e] at hk
    obtain ⟨h1, y, h2, h3⟩ := h.2 k q hk
    exact ⟨h1, y, by rw [List.getElem?_append_left (by rw [h.1]; exact e)]; exact h2, h3⟩
  · rw [List.getElem?_append_right (by omega)] at hk
    have hk0 : k - D.length = 0 := by
      have := (List.getElem?_eq_some_iff.1 hk).1
      simp at this
      omega
    rw [hk0] at hk
    have hq : zs = q := by simpa using hk
    subst hq
    refine ⟨hc, x, ?_, hx⟩
    rw [List.getElem?_append_right (by rw [h.1]; omega), h.1, hk0]
    rfl
theorem from_one {W : World} {g : Nat} {t : TypeId} {x : Value} (h : Blk W g t #[x]) : From W 1 (.slice (some ⟨g, 0, none⟩) 1 1) 1 [x] := ⟨_, _, rfl, rfl, fun _ => ⟨_, rfl, World.news_of_block h⟩⟩
theorem info_sl : (Tryz.prog.info? 33).map (fun i => (i.zero, i.size, i.bytes)) = some (some (.slice none 0 0), 1, 24) := by kernel_rfl
end Go.Proofs.YtkkgpdejmcpcpaaGreatDoor
/- CoefBack: the walk. -/
namespace Go.Proofs.YtkkgpdejmcpcpaaGreatDoor
open Go.RowKit

theorem noff_arg {w W : World} {x : Value} {l : List Int} {F : Nat → Prop} (hn : Nums w x l) (h0 : l ≠ []) (hb : Below w.heap.size w W) (hF : ∀ k, F k → w.heap.size ≤ k) : NOff x l W F := by
  have hn2 := hn.below hb
  obtain ⟨A, c, rfl, _, h3⟩ := hn
  obtain ⟨b, off, rfl, hlt, _⟩ := h3 h0
  have e : ∀ k, (Value.slice (some ⟨b, off, none⟩) l.length c).ownBlock = some k → k = b := fun k hk => by
    have : b = k := by simpa [Value.ownBlock] using hk
    exact this.symm
  exact ⟨hn2, fun k hk hFk => by have := e k hk; have := hF k hFk; omega, fun k hk => by have := e k hk; have := hb.size; omega⟩
end Go.Proofs.YtkkgpdejmcpcpaaGreatDoor

/- SyntaxBack: the walk where the squares are not few. -/
namespace Go.Proofs.YtkkgpdejmcpcpaaGreatDoor
open Go.RowKit

theorem els_below {w W : World} {x : Value} {l : List SqS} (h : Els w 13 (SquR w) x l) (hb : Below w.heap.size w W) : Els W 13 (SquR W) x l :=
  (h.below hb).mono (fun _ _ hR => hR.below hb)
end Go.Proofs.YtkkgpdejmcpcpaaGreatDoor

