/- Parts: XCopied20, XRSynI, XLawCReads. -/
import Derived.Test.YtkkgpdejmcpcpaaGreatDoorM42
import Derived.Test.YtkkgpdejmcpcpaaGreatDoorM32
import Derived.Test.YtkkgpdejmcpcpaaGreatDoorM33
import Derived.Test.YtkkgpdejmcpcpaaGreatDoorM34
import Derived.Test.YtkkgpdejmcpcpaaGreatDoorM35
import Derived.Test.YtkkgpdejmcpcpaaGreatDoorM22
import Derived.Test.YtkkgpdejmcpcpaaGreatDoorM02
import Derived.Test.YtkkgpdejmcpcpaaGreatDoorM30
/- Chapter 20: a square copied. -/
namespace Go.Proofs.YtkkgpdejmcpcpaaGreatDoor
open Go.RowKit

/-- A list of one's own. -/
def Own1 (w W : World) (v : Value) (l : List Int) : Prop := ∃ g cap, v = .slice (some ⟨g, 0, none⟩) l.length cap ∧ w.heap.size + 2 ≤ g ∧ NOff v l W (fun _ => False)
theorem Own1.below {w W W' : World} {v : Value} {l : List Int} (h : Own1 w W v l) (hb : Below W.heap.size W W') : Own1 w W' v l := by
  obtain ⟨g, cap, h1, h2, h3⟩ := h
  exact ⟨g, cap, h1, h2, h3.below hb⟩
theorem Own1.put {w W : World} {v : Value} {l : List Int} (h : Own1 w W v l) {ob : Nat} (ho : ob < w.heap.size + 2) (i : Nat) (u : Value) : Own1 w (W.setCell ⟨ob, i, none⟩ u) v l := by
  obtain ⟨g, cap, h1, h2, h3⟩ := h
  subst h1
  refine ⟨g, cap, rfl, h2, h3.put (fun k hk => ?_) i u⟩
  simp [Value.ownBlock] at hk
  omega
theorem Own1.of {w W W' : World} {g cap : Nat} {l : List Int} (h : W'.ownsRow W.heap.size 3 1 (.slice (some ⟨g, 0, none⟩) l.length cap) l.length (l.map intV)) (hs : w.heap.size + 2 ≤ W.heap.size) : Own1 w W' (.slice (some ⟨g, 0, none⟩) l.length cap) l := by
  have hn := Nums.of_own h rfl
  rcases h.2 with ⟨h1, _⟩ | ⟨g', cap', cur, h1, h2, h3, _⟩
  · injection h1 with h1; cases h1
  · obtain ⟨rfl, rfl⟩ : g = g' ∧ cap = cap' := by simpa using h1
    refine ⟨g, cap, rfl, by omega, hn, fun _ _ hf => hf, fun k hk => ?_⟩
    simp [Value.ownBlock] at hk
    subst hk
    exact (Array.getElem?_eq_some_iff.1 h3).1
/-- The square's block, the answer's block. -/
structure CpW (w W : World) (cs : Array Value) : Prop where
  box : Blk W w.heap.size 36 cs
  res : Blk W (w.heap.size + 1) 36 #[.int .i64 0, .int .i64 0, .int .i64 0, .int .i64 0, .int .i64 0, .int .i64 0, .int .i64 0, .int .i64 0, nilS, nilS, nilS, nilS, nilS]
  b : Below w.heap.size w W
theorem CpW.new (w : World) (cs : Array Value) : CpW w ((w.alloc (.cells cs 36)).alloc (.cells #[.int .i64 0, .int .i64 0, .int .i64 0, .int .i64 0, .int .i64 0, .int .i64 0, .int .i64 0, .int .i64 0, nilS, nilS, nilS, nilS, nilS] 36)) cs :=
  ⟨(Blk.new _ _ _).alloc _, Blk.newAt' _ _ _ (by simp), ((Below.refl _ _).alloc (Nat.le_refl _) _).alloc (by simp) _⟩
theorem CpW.step {w W W' : World} {cs : Array Value} (h : CpW w W cs) (hb : Below W.heap.size W W') : CpW w W' cs :=
  ⟨h.box.below hb h.box.lt, h.res.below hb h.res.lt, h.b.trans (hb.mono h.b.size)⟩
theorem CpW.put {w W : World} {cs : Array Value} (h : CpW w W cs) (i : Nat) (u : Value) : CpW w (W.setCell ⟨w.heap.size, i, none⟩ u) (cs.setIfInBounds i u) :=
  ⟨h.box.put i u, h.res.far (p := ⟨w.heap.size, i, none⟩) (by show w.heap.size + 1 ≠ w.heap.size; omega) _, h.b.setCell (p := ⟨w.heap.size, i, none⟩) (Nat.le_refl _) _⟩
theorem CpW.room {w W : World} {cs : Array Value} (h : CpW w W cs) : w.heap.size + 2 ≤ W.heap.size := by have := h.res.lt; omega
theorem Below.put13 {w W : World} {ob : Nat} (h : Below w.heap.size w W) (lo : w.heap.size ≤ ob) (k mode m0 m1 m2 m3 x y : Int) (lv v0 v1 v2 v3 : Value) : Below w.heap.size w (((((((((((((W.setCell ⟨ob, 0, none⟩ (.int .i64 k)).setCell ⟨ob, 1, none⟩ (.int .i64 mode)).setCell ⟨ob, 2, none⟩ (.int .i64 m0)).setCell ⟨ob, 3, none⟩ (.int .i64 m1)).setCell ⟨ob, 4, none⟩ (.int .i64 m2)).setCell ⟨ob, 5, none⟩ (.int .i64 m3)).setCell ⟨ob, 6, none⟩ (.int .i64 x)).setCell ⟨ob, 7, none⟩ (.int .i64 y)).setCell ⟨ob, 8, none⟩ lv).setCell ⟨ob, 9, none⟩ v0).setCell ⟨ob, 10, none⟩ v1).setCell ⟨ob, 11, none⟩ v2).setCell ⟨ob, 12, none⟩ v3) :=
  ((((((((((((h.setCell (p := ⟨ob, 0, none⟩) lo _).setCell (p := ⟨ob, 1, none⟩) lo _).setCell (p := ⟨ob, 2, none⟩) lo _).setCell (p := ⟨ob, 3, none⟩) lo _).setCell (p := ⟨ob, 4, none⟩) lo _).setCell (p := ⟨ob, 5, none⟩) lo _).setCell (p := ⟨ob, 6, none⟩) lo _).setCell (p := ⟨ob, 7, none⟩) lo _).setCell (p := ⟨ob, 8, none⟩) lo _).setCell (p := ⟨ob, 9, none⟩) lo _).setCell (p := ⟨ob, 10, none⟩) lo _).setCell (p := ⟨ob, 11, none⟩) lo _).setCell (p := ⟨ob, 12, none⟩) lo _
theorem Own1.put13 {w W : World} {v : Value} {l : List Int} (h : Own1 w W v l) {ob : Nat} (ho : ob < w.heap.size + 2) (k mode m0 m1 m2 m3 x y : Int) (lv v0 v1 v2 v3 : Value) : Own1 w (((((((((((((W.setCell ⟨ob, 0, none⟩ (.int .i64 k)).setCell ⟨ob, 1, none⟩ (.int .i64 mode)).setCell ⟨ob, 2, none⟩ (.int .i64 m0)).setCell ⟨ob, 3, none⟩ (.int .i64 m1)).setCell ⟨ob, 4, none⟩ (.int .i64 m2)).setCell ⟨ob, 5, none⟩ (.int .i64 m3)).setCell ⟨ob, 6, none⟩ (.int .i64 x)).setCell ⟨ob, 7, none⟩ (.int .i64 y)).setCell ⟨ob, 8, none⟩ lv).setCell ⟨ob, 9, none⟩ v0).setCell ⟨ob, 10, none⟩ v1).setCell ⟨ob, 11, none⟩ v2).setCell ⟨ob, 12, none⟩ v3) v l :=
  ((((((((((((h.put ho 0 _).put ho 1 _).put ho 2 _).put ho 3 _).put ho 4 _).put ho 5 _).put ho 6 _).put ho 7 _).put ho 8 _).put ho 9 _).put ho 10 _).put ho 11 _).put ho 12 _
set_option maxRecDepth 100000 in
set_option maxHeartbeats 4000000 in
theorem copied_any (k mode m0 m1 m2 m3 x y : Int) (lv v0 v1 v2 v3 : Value) (ll l0 l1 l2 l3 : List Int) (w : World)
    (hn : Nums w lv ll ∧ Nums w v0 l0 ∧ Nums w v1 l1 ∧ Nums w v2 l2 ∧ Nums w v3 l3) (hl : ll.length ≤ 1000000 ∧ l0.length ≤ 1000000 ∧ l1.length ≤ 1000000 ∧ l2.length ≤ 1000000 ∧ l3.length ≤ 1000000) :
    Calls Tryz.prog 9 #[sqV k mode m0 m1 m2 m3 x y lv v0 v1 v2 v3] w fun e w' => ∃ lu u0 u1 u2 u3, e = .returned (sqV k mode m0 m1 m2 m3 x y lu u0 u1 u2 u3) ∧ Below w.heap.size w w' ∧ Own1 w w' lu ll ∧ Own1 w w' u0 l0 ∧ Own1 w w' u1 l1 ∧ Own1 w w' u2 l2 ∧ Own1 w w' u3 l3 := by
  have AW := hid (CpW.new w #[.int .i64 k, .int .i64 mode, .int .i64 m0, .int .i64 m1, .int .i64 m2, .int .i64 m3, .int .i64 x, .int .i64 y, lv, v0, v1, v2, v3])
  have N := hid hn
  have LL := hid hl
  clear hn hl
  unfold sqV
  go_enter Tryz.func9, Tryz.ntmps9
  go_wp2_with fail
  generalize ((w.alloc _).alloc _ : World) = w1 at *
  refine (copy_ints lv ll _ (N.out.1.below AW.out.b) LL.out.1).mono ?_
  rintro e w2 ⟨g, cap, rfl, hown, hb2⟩
  have A2 := AW.out.step hb2
  have c8 : w2.cell? ⟨w.heap.size, 8, none⟩ = some lv := by simpa using A2.box.cell 8
  have f8 := A2.box.frozen 8
  have O2 := hid (And.intro (show CpW w (w2.setCell ⟨w.heap.size, 8, none⟩ (.slice (some ⟨g, 0, none⟩) ll.length cap)) #[.int .i64 k, .int .i64 mode, .int .i64 m0, .int .i64 m1, .int .i64 m2, .int .i64 m3, .int .i64 x, .int .i64 y, (.slice (some ⟨g, 0, none⟩) ll.length cap), v0, v1, v2, v3] from A2.put 8 _) ((Own1.of (w := w) hown AW.out.room).put (ob := w.heap.size) (by omega) 8 (.slice (some ⟨g, 0, none⟩) ll.length cap)))
  clear hown hb2 A2
  go_wp2_with fail
  generalize w2.setCell ⟨w.heap.size, 8, none⟩ (.slice (some ⟨g, 0, none⟩) ll.length cap) = w3 at *
  clear c8 f8
  go_loopg [3] 4 (fun j iv wr => ∃ (i : Nat) (u0 u1 u2 u3 : Value), i + j = 4 ∧ iv = .int .i64 i ∧ CpW w wr #[.int .i64 k, .int .i64 mode, .int .i64 m0, .int .i64 m1, .int .i64 m2, .int .i64 m3, .int .i64 x, .int .i64 y, (.slice (some ⟨g, 0, none⟩) ll.length cap), u0, u1, u2, u3] ∧ Own1 w wr (.slice (some ⟨g, 0, none⟩) ll.length cap) ll ∧ (if 0 < i then Own1 w wr u0 l0 else u0 = v0) ∧ (if 1 < i then Own1 w wr u1 l1 else u1 = v1) ∧ (if 2 < i then Own1 w wr u2 l2 else u2 = v2) ∧ (if 3 < i then Own1 w wr u3 l3 else u3 = v3))
  case atStart => exact ⟨0, v0, v1, v2, v3, by omega, rfl, O2.out.1, O2.out.2, rfl, rfl, rfl, rfl⟩
  case round =>
    obtain ⟨i, u0, u1, u2, u3, hij, rfl, hA, hO, hu0, hu1, hu2, hu3⟩ := hrel
    have IJ := hid hij
    have hci : i = 4 ∨ i = 0 ∨ i = 1 ∨ i = 2 ∨ i = 3 := by omega
    clear hij
    rcases hci with rfl | rfl | rfl | rfl | rfl
    · have hu := hid (And.intro hO (And.intro (show Own1 w wr u0 l0 from hu0) (And.intro (show Own1 w wr u1 l1 from hu1) (And.intro (show Own1 w wr u2 l2 from hu2) (show Own1 w wr u3 l3 from hu3)))))
      clear hu0 hu1 hu2 hu3 hO
      obtain ⟨h0g, h0c, rfl, _⟩ := id hu.out.2.1
      obtain ⟨h1g, h1c, rfl, _⟩ := id hu.out.2.2.1
      obtain ⟨h2g, h2c, rfl, _⟩ := id hu.out.2.2.2.1
      obtain ⟨h3g, h3c, rfl, _⟩ := id hu.out.2.2.2.2
      have hbox := SqBlk.of hA.box rfl
      have hres : SqBlk wr (w.heap.size + 1) 36 0 0 [] 0 0 nilS [] := SqBlk.new hA.res rfl
      have BB := hid hA.b
      obtain ⟨⟨q0, q1⟩, ⟨q2, q3, q4, q5⟩, ⟨q6, q7, q8⟩, q9, q10, q11, q12⟩ := hbox.all4
      obtain ⟨⟨r0, r1⟩, ⟨r2, r3, r4, r5⟩, ⟨r6, r7, r8⟩, r9, r10, r11, r12⟩ := hres.all4'
      have f0 := hres.frozen 0
      have f1 := hres.frozen 1
      have f2 := hres.frozen 2
      have f3 := hres.frozen 3
      have f4 := hres.frozen 4
      have f5 := hres.frozen 5
      have f6 := hres.frozen 6
      have f7 := hres.frozen 7
      have f8 := hres.frozen 8
      have f9 := hres.frozen 9
      have f10 := hres.frozen 10
      have f11 := hres.frozen 11
      have f12 := hres.frozen 12
      have RS := hid hres
      clear hA hbox hres
      go_wp2_with fail
      obtain ⟨⟨z0, z1⟩, ⟨z2, z3, z4, z5⟩, ⟨z6, z7, z8⟩, z9, z10, z11, z12⟩ := (RS.out.set13 k mode m0 m1 m2 m3 x y (.slice (some ⟨g, 0, none⟩) ll.length cap) (.slice (some ⟨h0g, 0, none⟩) l0.length h0c) (.slice (some ⟨h1g, 0, none⟩) l1.length h1c) (.slice (some ⟨h2g, 0, none⟩) l2.length h2c) (.slice (some ⟨h3g, 0, none⟩) l3.length h3c)).all4
      exact bodyPost_ret (v := sqV k mode m0 m1 m2 m3 x y (.slice (some ⟨g, 0, none⟩) ll.length cap) (.slice (some ⟨h0g, 0, none⟩) l0.length h0c) (.slice (some ⟨h1g, 0, none⟩) l1.length h1c) (.slice (some ⟨h2g, 0, none⟩) l2.length h2c) (.slice (some ⟨h3g, 0, none⟩) l3.length h3c)) (by simp [sqV, results, Tryz.results9, go_sem, z0, z1, z2, z3, z4, z5, z6, z7, z8, z9, z10, z11, z12]) rfl ⟨_, _, _, _, _, rfl, Below.put13 BB.out (by omega) _ _ _ _ _ _ _ _ _ _ _ _ _, hu.out.1.put13 (by omega) _ _ _ _ _ _ _ _ _ _ _ _ _, hu.out.2.1.put13 (by omega) _ _ _ _ _ _ _ _ _ _ _ _ _, hu.out.2.2.1.put13 (by omega) _ _ _ _ _ _ _ _ _ _ _ _ _, hu.out.2.2.2.1.put13 (by omega) _ _ _ _ _ _ _ _ _ _ _ _ _, hu.out.2.2.2.2.put13 (by omega) _ _ _ _ _ _ _ _ _ _ _ _ _⟩
    · obtain rfl : u0 = v0 := hu0; obtain rfl : u1 = v1 := hu1; obtain rfl : u2 = v2 := hu2; obtain rfl : u3 = v3 := hu3
      have HU := hid (And.intro hA (And.intro hO True.intro))
      have c9 : wr.cell? ⟨w.heap.size, 9, none⟩ = some u0 := by simpa using hA.box.cell 9
      clear hA hO
      go_wp2_with fail
      refine (copy_ints u0 l0 _ (N.out.2.1.below HU.out.1.b) LL.out.2.1).mono ?_
      rintro e w4 ⟨g4, cap4, rfl, hown, hb4⟩
      have A4 := HU.out.1.step hb4
      have d9 : w4.cell? ⟨w.heap.size, 9, none⟩ = some u0 := by simpa using A4.box.cell 9
      have f9 := A4.box.frozen 9
      have O4 := hid (And.intro (show CpW w (w4.setCell ⟨w.heap.size, 9, none⟩ (.slice (some ⟨g4, 0, none⟩) l0.length cap4)) #[.int .i64 k, .int .i64 mode, .int .i64 m0, .int .i64 m1, .int .i64 m2, .int .i64 m3, .int .i64 x, .int .i64 y, (.slice (some ⟨g, 0, none⟩) ll.length cap), (.slice (some ⟨g4, 0, none⟩) l0.length cap4), u1, u2, u3] from A4.put 9 _) ((Own1.of (w := w) hown HU.out.1.room).put (ob := w.heap.size) (by omega) 9 (.slice (some ⟨g4, 0, none⟩) l0.length cap4)))
      have B4 := hid hb4
      clear hown hb4 A4
      go_wp2_with fail
      go_roundg (gk - 1)
      case measure => have := IJ.out; omega
      case rel => exact ⟨1, _, u1, u2, u3, by have := IJ.out; omega, by go_num, O4.out.1, (HU.out.2.1.below B4.out).put (ob := w.heap.size) (by omega) _ _, O4.out.2, rfl, rfl, rfl⟩
    · obtain rfl : u1 = v1 := hu1; obtain rfl : u2 = v2 := hu2; obtain rfl : u3 = v3 := hu3
      have HU := hid (And.intro hA (And.intro hO (And.intro (show Own1 w wr u0 l0 from hu0) True.intro)))
      have c10 : wr.cell? ⟨w.heap.size, 10, none⟩ = some u1 := by simpa using hA.box.cell 10
      clear hA hO hu0
      go_wp2_with fail
      refine (copy_ints u1 l1 _ (N.out.2.2.1.below HU.out.1.b) LL.out.2.2.1).mono ?_
      rintro e w4 ⟨g4, cap4, rfl, hown, hb4⟩
      have A4 := HU.out.1.step hb4
      have d10 : w4.cell? ⟨w.heap.size, 10, none⟩ = some u1 := by simpa using A4.box.cell 10
      have f10 := A4.box.frozen 10
      have O4 := hid (And.intro (show CpW w (w4.setCell ⟨w.heap.size, 10, none⟩ (.slice (some ⟨g4, 0, none⟩) l1.length cap4)) #[.int .i64 k, .int .i64 mode, .int .i64 m0, .int .i64 m1, .int .i64 m2, .int .i64 m3, .int .i64 x, .int .i64 y, (.slice (some ⟨g, 0, none⟩) ll.length cap), u0, (.slice (some ⟨g4, 0, none⟩) l1.length cap4), u2, u3] from A4.put 10 _) ((Own1.of (w := w) hown HU.out.1.room).put (ob := w.heap.size) (by omega) 10 (.slice (some ⟨g4, 0, none⟩) l1.length cap4)))
      have B4 := hid hb4
      clear hown hb4 A4
      go_wp2_with fail
      go_roundg (gk - 1)
      case measure => have := IJ.out; omega
      case rel => exact ⟨2, u0, _, u2, u3, by have := IJ.out; omega, by go_num, O4.out.1, (HU.out.2.1.below B4.out).put (ob := w.heap.size) (by omega) _ _, ((HU.out.2.2.1).below B4.out).put (ob := w.heap.size) (by omega) _ _, O4.out.2, rfl, rfl⟩
    · obtain rfl : u2 = v2 := hu2; obtain rfl : u3 = v3 := hu3
      have HU := hid (And.intro hA (And.intro hO (And.intro (show Own1 w wr u0 l0 from hu0) (And.intro (show Own1 w wr u1 l1 from hu1) True.intro))))
      have c11 : wr.cell? ⟨w.heap.size, 11, none⟩ = some u2 := by simpa using hA.box.cell 11
      clear hA hO hu0 hu1
      go_wp2_with fail
      refine (copy_ints u2 l2 _ (N.out.2.2.2.1.below HU.out.1.b) LL.out.2.2.2.1).mono ?_
      rintro e w4 ⟨g4, cap4, rfl, hown, hb4⟩
      have A4 := HU.out.1.step hb4
      have d11 : w4.cell? ⟨w.heap.size, 11, none⟩ = some u2 := by simpa using A4.box.cell 11
      have f11 := A4.box.frozen 11
      have O4 := hid (And.intro (show CpW w (w4.setCell ⟨w.heap.size, 11, none⟩ (.slice (some ⟨g4, 0, none⟩) l2.length cap4)) #[.int .i64 k, .int .i64 mode, .int .i64 m0, .int .i64 m1, .int .i64 m2, .int .i64 m3, .int .i64 x, .int .i64 y, (.slice (some ⟨g, 0, none⟩) ll.length cap), u0, u1, (.slice (some ⟨g4, 0, none⟩) l2.length cap4), u3] from A4.put 11 _) ((Own1.of (w := w) hown HU.out.1.room).put (ob := w.heap.size) (by omega) 11 (.slice (some ⟨g4, 0, none⟩) l2.length cap4)))
      have B4 := hid hb4
      clear hown hb4 A4
      go_wp2_with fail
      go_roundg (gk - 1)
      case measure => have := IJ.out; omega
      case rel => exact ⟨3, u0, u1, _, u3, by have := IJ.out; omega, by go_num, O4.out.1, (HU.out.2.1.below B4.out).put (ob := w.heap.size) (by omega) _ _, ((HU.out.2.2.1).below B4.out).put (ob := w.heap.size) (by omega) _ _, ((HU.out.2.2.2.1).below B4.out).put (ob := w.heap.size) (by omega) _ _, O4.out.2, rfl⟩
    · obtain rfl : u3 = v3 := hu3
      have HU := hid (And.intro hA (And.intro hO (And.intro (show Own1 w wr u0 l0 from hu0) (And.intro (show Own1 w wr u1 l1 from hu1) (And.intro (show Own1 w wr u2 l2 from hu2) True.intro)))))
      have c12 : wr.cell? ⟨w.heap.size, 12, none⟩ = some u3 := by simpa using hA.box.cell 12
      clear hA hO hu0 hu1 hu2
      go_wp2_with fail
      refine (copy_ints u3 l3 _ (N.out.2.2.2.2.below HU.out.1.b) LL.out.2.2.2.2).mono ?_
      rintro e w4 ⟨g4, cap4, rfl, hown, hb4⟩
      have A4 := HU.out.1.step hb4
      have d12 : w4.cell? ⟨w.heap.size, 12, none⟩ = some u3 := by simpa using A4.box.cell 12
      have f12 := A4.box.frozen 12
      have O4 := hid (And.intro (show CpW w (w4.setCell ⟨w.heap.size, 12, none⟩ (.slice (some ⟨g4, 0, none⟩) l3.length cap4)) #[.int .i64 k, .int .i64 mode, .int .i64 m0, .int .i64 m1, .int .i64 m2, .int .i64 m3, .int .i64 x, .int .i64 y, (.slice (some ⟨g, 0, none⟩) ll.length cap), u0, u1, u2, (.slice (some ⟨g4, 0, none⟩) l3.length cap4)] from A4.put 12 _) ((Own1.of (w := w) hown HU.out.1.room).put (ob := w.heap.size) (by omega) 12 (.slice (some ⟨g4, 0, none⟩) l3.length cap4)))
      have B4 := hid hb4
      clear hown hb4 A4
      go_wp2_with fail
      go_roundg (gk - 1)
      case measure => have := IJ.out; omega
      case rel => exact ⟨4, u0, u1, u2, _, by have := IJ.out; omega, by go_num, O4.out.1, (HU.out.2.1.below B4.out).put (ob := w.heap.size) (by omega) _ _, ((HU.out.2.2.1).below B4.out).put (ob := w.heap.size) (by omega) _ _, ((HU.out.2.2.2.1).below B4.out).put (ob := w.heap.size) (by omega) _ _, ((HU.out.2.2.2.2.1).below B4.out).put (ob := w.heap.size) (by omega) _ _, O4.out.2⟩
end Go.Proofs.YtkkgpdejmcpcpaaGreatDoor

/- Chapter 20: the document's Code at the document's reader and writer; a square that it refuses. -/
namespace Go.Proofs.YtkkgpdejmcpcpaaGreatDoor
open Go.RowKit
theorem xr_reads (b db : Nat) : ∀ W F s, AtXr b db W F s → W.cell? ⟨b, 0, none⟩ = some (.bool true) := by
  rintro W F s ⟨g, cap, h1, _⟩
  rw [h1.blk.cell, cod_0]
theorem xw_reads (b eb : Nat) : ∀ W F s, AtXw b eb W F s → W.cell? ⟨b, 0, none⟩ = some (.bool false) := by
  rintro W F s ⟨v, h1, _⟩
  rw [h1.blk.cell, cod_0]
theorem rrcode20 (b db : Nat) (key : Bool) (vv : Value) (s : SqS) (m0 m1 m2 m3 : Int) (lv v0 v1 v2 v3 : Value) (l0 l1 l2 l3 : List Int) (st : XRd) (w : World) (F : Nat → Prop) (lim : Nat)
    (hn : SqArg w vv s m0 m1 m2 m3 lv v0 v1 v2 v3 l0 l1 l2 l3) (hs : AtXr b db w F st) (ho : st.Ok lim) (hl : lim + 100000 ≤ 1000000000) :
    Calls Tryz.prog 11 #[.pointer (some ⟨b, 0, none⟩), .bool key, vv] w (RSCodeRes xrM (AtXr b db) w F (codeA key zeroS) st) := by
  have hk := (All.run xrM (all_head key 0) st).1
  have AL : ∀ (sd base : Nat) (l : List Int), Sized l sd base → l.any lvOut = false → ∀ s, xrM.run (rsquareA base (ordOf sd) l) s = xrM.run (squareA base (ordOf sd) l) s := fun sd base l _ _ u => (deaf_square deaf_xr base (ordOf sd) l u).symm
  rcases hk with hk | hk | hk | hk
  · exact rc20_rd_0 b (xr_coder b db) (xr_reads b db) AL key vv s m0 m1 m2 m3 lv v0 v1 v2 v3 l0 l1 l2 l3 st w F lim hn hs ho hl hk
  · exact rc20_rd_1 b (xr_coder b db) (xr_reads b db) AL key vv s m0 m1 m2 m3 lv v0 v1 v2 v3 l0 l1 l2 l3 st w F lim hn hs ho hl hk
  · exact rc20_rd_2 b (xr_coder b db) (xr_reads b db) AL key vv s m0 m1 m2 m3 lv v0 v1 v2 v3 l0 l1 l2 l3 st w F lim hn hs ho hl hk
  · exact rc20_rd_3 b (xr_coder b db) (xr_reads b db) AL key vv s m0 m1 m2 m3 lv v0 v1 v2 v3 l0 l1 l2 l3 st w F lim hn hs ho hl hk
theorem rwcode20 (b eb : Nat) (key : Bool) (vv : Value) (s : SqS) (m0 m1 m2 m3 : Int) (lv v0 v1 v2 v3 : Value) (l0 l1 l2 l3 : List Int) (st : XWr) (w : World) (F : Nat → Prop) (lim : Nat)
    (hn : SqArg w vv s m0 m1 m2 m3 lv v0 v1 v2 v3 l0 l1 l2 l3) (hs : AtXw b eb w F st) (ho : st.Ok lim) (hl : lim + 100000 ≤ 1000000000) (hright : RightS key s)
    (h3 : s.kind = 3 → ∀ p ∈ [(v0, l0), (v1, l1), (v2, l2), (v3, l3)], NOff p.1 p.2 w F) (h12 : s.kind = 1 ∨ s.kind = 2 → NOff lv s.large w F) :
    Calls Tryz.prog 11 #[.pointer (some ⟨b, 0, none⟩), .bool key, vv] w (RSCodeRes xwM (AtXw b eb) w F (codeA key s) st) := by
  have hk : s.kind = 0 ∨ s.kind = 1 ∨ s.kind = 2 ∨ s.kind = 3 := by have := hright.k0; have := hright.k3; omega
  have AL : ∀ (sd base : Nat) (l : List Int), Sized l sd base → l.any lvOut = false → ∀ s, xwM.run (rsquareA base (ordOf sd) l) s = xwM.run (squareA base (ordOf sd) l) s := fun sd base l hsd _ u => (echo_square echo_xw base (ordOf sd) l (countL_ord (ord_sized hsd).1) u).symm
  rcases hk with hk | hk | hk | hk
  · exact rc20_wr_0 b (xw_coder b eb) (xw_reads b eb) AL key vv s m0 m1 m2 m3 lv v0 v1 v2 v3 l0 l1 l2 l3 st w F lim hn hs ho hl hright echo_xw h3 h12 hk
  · exact rc20_wr_1 b (xw_coder b eb) (xw_reads b eb) AL key vv s m0 m1 m2 m3 lv v0 v1 v2 v3 l0 l1 l2 l3 st w F lim hn hs ho hl hright echo_xw h3 h12 hk
  · exact rc20_wr_2 b (xw_coder b eb) (xw_reads b eb) AL key vv s m0 m1 m2 m3 lv v0 v1 v2 v3 l0 l1 l2 l3 st w F lim hn hs ho hl hright echo_xw h3 h12 hk
  · exact rc20_wr_3 b (xw_coder b eb) (xw_reads b eb) AL key vv s m0 m1 m2 m3 lv v0 v1 v2 v3 l0 l1 l2 l3 st w F lim hn hs ho hl hright echo_xw h3 h12 hk
set_option maxRecDepth 100000 in
set_option maxHeartbeats 8000000 in
theorem rcode20_bad (b eb : Nat) (key : Bool) (vv : Value) (s : SqS) (m0 m1 m2 m3 : Int) (lv v0 v1 v2 v3 : Value) (l0 l1 l2 l3 : List Int) (st : XWr) (w : World) (F : Nat → Prop)
    (hn : SqArg w vv s m0 m1 m2 m3 lv v0 v1 v2 v3 l0 l1 l2 l3) (hs : AtXw b eb w F st) (hbad : askNo key s ≠ 0) :
    Calls Tryz.prog 11 #[.pointer (some ⟨b, 0, none⟩), .bool key, vv] w fun e w' => e = .returned (.tuple #[zeroV, errA (askNo key s)]) ∧ Below w.heap.size w w' := by
  have hvv := hn.num.v
  have HAS := hid (fun W (hb : Below w.heap.size w W) => rasks_any key vv s m0 m1 m2 m3 lv v0 v1 v2 v3 l0 l1 l2 l3 W (hn.below hb))
  subst hvv
  have hq0 : (askNo key s == 0) = false := by simpa using hbad
  generalize askNo key s = q at *
  have hts := RB.start (M := xwM) (Ok := XWr.Ok) (L := []) (k := s.kind) (mode := s.mode) (m0 := m0) (m1 := m1) (m2 := m2) (m3 := m3) (x := s.x) (y := s.y) (lv := lv) (v0 := v0) (v1 := v1) (v2 := v2) (v3 := v3) (xw_coder b eb) hs (fun p hp => by cases hp)
  have hcr := xw_reads b eb _ _ _ hts.c.c.a
  have hbt : Below w.heap.size w (((w.alloc (.cells #[.int .i64 s.kind, .int .i64 s.mode, .int .i64 m0, .int .i64 m1, .int .i64 m2, .int .i64 m3, .int .i64 s.x, .int .i64 s.y, lv, v0, v1, v2, v3] 42)).alloc (.cells #[.int .i64 0, .int .i64 0, .int .i64 0, .int .i64 0, .int .i64 0, .int .i64 0, .int .i64 0, .int .i64 0, nilS, nilS, nilS, nilS, nilS] 42)).alloc (.cells #[.int .i64 0, nilS] 46)) := (((Below.refl _ _).alloc (Nat.le_refl _) _).alloc (by simp) _).alloc (by simp; omega) _
  have TS := hid (And.intro hts hbt)
  unfold sqV at HAS ⊢
  clear hn hs hts hbt hbad
  go_enter Tryz.func11, Tryz.ntmps11
  go_wp2_with fail
  clear hcr
  generalize (((w.alloc _).alloc _).alloc _ : World) = wq at *
  refine (HAS.out _ TS.out.2).mono ?_
  rintro e wr0 ⟨rfl, hbr0⟩
  have hal0 : Below wr0.heap.size wr0 (wr0.alloc (.cells #[.int .i64 q, nilS] 46)) := (Below.refl _ _).alloc (Nat.le_refl _) _
  have BR0 := hid (And.intro (hbr0.trans (hal0.mono hbr0.size)) (And.intro (Blk.new wr0 46 #[.int .i64 q, nilS]) hbr0.size))
  clear hbr0 hal0
  unfold errA
  go_wp2_with fail
  refine (err_ok q nilS _).mono ?_
  rintro e w9 ⟨rfl, hb4⟩
  have hbr := BR0.out.1.trans (hb4.mono BR0.out.1.size)
  have R := hid (TS.out.1.below (xw_coder b eb) hbr)
  have E := hid (BR0.out.2.1.below hb4 BR0.out.2.1.lt)
  have hlt : w.heap.size + 1 + 1 < wr0.heap.size := by have := TS.out.1.rer.lt; have := BR0.out.2.2; omega
  have BW := hid (TS.out.2.trans (hbr.mono TS.out.2.size))
  generalize wr0.heap.size = ob at *
  clear hb4 hbr BR0 TS HAS
  obtain ⟨e0, e1⟩ := blk2R E.out
  obtain ⟨⟨r0, r1⟩, ⟨r2, r3, r4, r5⟩, ⟨r6, r7, r8⟩, r9, r10, r11, r12⟩ := R.out.res.all4'
  obtain ⟨q0, q1⟩ := blk2R R.out.rer
  have g0 := R.out.rer.frozen 0
  have g1 := R.out.rer.frozen 1
  have f0 := R.out.res.frozen 0
  have f1 := R.out.res.frozen 1
  have f2 := R.out.res.frozen 2
  have f3 := R.out.res.frozen 3
  have f4 := R.out.res.frozen 4
  have f5 := R.out.res.frozen 5
  have f6 := R.out.res.frozen 6
  have f7 := R.out.res.frozen 7
  have f8 := R.out.res.frozen 8
  have f9 := R.out.res.frozen 9
  have f10 := R.out.res.frozen 10
  have f11 := R.out.res.frozen 11
  have f12 := R.out.res.frozen 12
  obtain ⟨hz1, hz2⟩ := fin_z R.out.res R.out.rer (by omega) 0 0 0 0 0 0 0 0 q nilS nilS nilS nilS nilS nilS
  obtain ⟨⟨z0, z1⟩, ⟨z2, z3, z4, z5⟩, ⟨z6, z7, z8⟩, z9, z10, z11, z12⟩ := hz1.all4
  obtain ⟨z13, z14⟩ := blk2R hz2
  have hne : ¬ (ob = w.heap.size + 1) := by omega
  have hne2 : ¬ (w.heap.size + 1 = ob) := fun e => hne e.symm
  obtain ⟨y0, y1⟩ := blk2R (E.out.keep (only13 w9 (w.heap.size + 1) 0 0 0 0 0 0 0 0 nilS nilS nilS nilS nilS) (by show ¬ ob = w.heap.size + 1; omega))
  clear hz1 hz2
  go_wp2_with fail
  go_region
  go_wp2_with fail
  exact bodyPost_ret (v := .tuple #[zeroV, errA q]) (by simp [sqV, errA, results, Tryz.results11, go_sem, z0, z1, z2, z3, z4, z5, z6, z7, z8, z9, z10, z11, z12, z13, z14]) rfl (by
    refine ⟨rfl, ?_⟩
    have h13 := Below.put13 BW.out (ob := w.heap.size + 1) (by omega) 0 0 0 0 0 0 0 0 nilS nilS nilS nilS nilS
    exact ((h13.setCell (p := ⟨w.heap.size + 1 + 1, 0, none⟩) (by show w.heap.size ≤ w.heap.size + 1 + 1; omega) _).setCell (p := ⟨w.heap.size + 1 + 1, 1, none⟩) (by show w.heap.size ≤ w.heap.size + 1 + 1; omega) _).drew)
end Go.Proofs.YtkkgpdejmcpcpaaGreatDoor

/- CoefReads: the walk. -/
namespace Go.Proofs.YtkkgpdejmcpcpaaGreatDoor
open Go.RowKit

theorem ok_xr_new (bs : List UInt8) : (XRd.new bs).Ok 4 := by
  have h0 := byteAt_lt bs 0
  have h1 := byteAt_lt bs 1
  have h2 := byteAt_lt bs 2
  have h3 := byteAt_lt bs 3
  refine ⟨pok_first, ⟨by show 16777216 ≤ 4294967295; omega, by show 4294967295 ≤ 4294967295; omega, ?_, by show 4 ≤ 4; omega⟩⟩
  show (Dec.rnew bs).off ≤ _
  simp only [Dec.rnew, Dec.rnext]
  omega
theorem sim_new (bs : List UInt8) : RdSim (Rd.new bs) (XRd.new bs) :=
  ⟨rfl, DecSim.new bs, pok_first, by show 16777216 ≤ 4294967295; omega, by show 4294967295 ≤ 4294967295; omega, by have := pre_lt bs 4 (by omega); show pre bs 4 ≤ 4294967295; omega⟩
/-- What both answer: a and c read alike; the errors are the same. -/
def Told (W : World) (r : SqR) (a ev c : Value) (ec : Int) (ep : Value) : Prop :=
  Nums W a r.2 ∧ Nums W c r.2 ∧ ((r.1 = none ∧ ev = .nilIface ∧ ec = 0 ∧ ep = .slice none 0 0) ∨ (∃ i : Nat, r.1 = some i ∧ ec = 3 ∧ ErrV W 3 [(⟨#[99, 111, 101, 102]⟩, (i : Int))] ev ∧ Steps W ep [(⟨#[99, 111, 101, 102]⟩, (i : Int))]))
theorem Told.below {W W' : World} {r : SqR} {a ev c ep : Value} {ec : Int} (h : Told W r a ev c ec ep) (hb : Below W.heap.size W W') : Told W' r a ev c ec ep := by
  obtain ⟨h1, h2, h3⟩ := h
  refine ⟨h1.below hb, h2.below hb, ?_⟩
  rcases h3 with h3 | ⟨i, h4, h5, h6, h7⟩
  · exact .inl h3
  · exact .inr ⟨i, h4, h5, h6.below hb, h7.below hb⟩
theorem Told.err {W : World} {r : SqR} {a ev c ep : Value} {ec : Int} (h : Told W r a ev c ec ep) (hg : ErrT W) : Calls Tryz.prog 14 #[ev, .agg #[.int .i64 ec, ep]] W fun e w' => e = .returned (.bool true) ∧ Below W.heap.size W w' := by
  obtain ⟨_, _, h3⟩ := h
  rcases h3 with ⟨_, rfl, rfl, rfl⟩ | ⟨i, _, rfl, h6, h7⟩
  · exact err_same 0 W hg
  · exact err_path 3 _ ev ep W h6 h7 hg (by omega) (by show 1 ≤ 1000; omega)
theorem Blk.one {w : World} {g : Nat} {t t' : TypeId} {cs cs' : Array Value} (h : Blk w g t cs) (h' : Blk w g t' cs') : t = t' := by
  have e := Option.some.inj (h.symm.trans h')
  injection e
theorem xr_no_fault {b db : Nat} {w : World} {G : Nat → Prop} {s : XRd} (h : AtXr b db w G s) {fb : Nat} {cs : Array Value} (hB : Blk w fb 132 cs) : ¬ G fb := by
  obtain ⟨g, cap, h1, rfl⟩ := h
  rintro (rfl | rfl | rfl)
  · exact absurd (h1.blk.one hB) (by decide)
  · exact absurd (h1.dec.blk.one hB) (by decide)
  · obtain ⟨cs', hb, _⟩ := h1.dec.bys
    exact absurd (hb.one hB) (by decide)
theorem nums_nil (W : World) : Nums W (.slice none 0 0) [] := ⟨none, 0, rfl, Nat.le_refl _, fun h => absurd rfl h⟩
theorem ans_form {w0 w' : World} {r : SqR} {F : Nat → Prop} {e : Ending} (h : SqAns w0 r F e w') : ∃ a ev, e = .returned (.tuple #[a, ev]) := by
  obtain ⟨ro, rl⟩ := r
  cases ro with
  | none => obtain ⟨g, h1, _⟩ := h; exact ⟨_, _, h1⟩
  | some i => obtain ⟨ev, h1, _⟩ := h; exact ⟨_, _, h1⟩
theorem sqok_len {n : Nat} {r : SqR} (h : SqOk n r) : r.2.length ≤ n := by
  rcases h with ⟨_, h, _⟩ | ⟨_, _, _, h⟩
  · omega
  · rw [h]; simp
/-- From the two answers. -/
theorem told_of {w5 w6 w7 : World} {F6 G G7 : Nat → Prop} {r : SqR} {e1 e2 : Ending} {k : Nat} (hok : SqOk k r) (h1 : SqAns w5 r F6 e1 w6) (h2 : RSqAns w6 r G7 e2 w7) (ho : Only G w6 w7) (hG : ∀ k, G k → k < w5.heap.size)
    (hF : ∀ fb cs, Blk w6 fb 132 cs → ¬ G fb) :
    ∃ a ev c ec ep, e1 = .returned (.tuple #[a, ev]) ∧ e2 = .returned (.tuple #[c, .agg #[.int .i64 ec, ep]]) ∧ Told w7 r a ev c ec ep := by
  obtain ⟨ro, rl⟩ := r
  rcases hok with ⟨q1, q2, q3⟩ | ⟨i, q1, q2, q3⟩
  · dsimp only at q1 q2 q3
    subst q1
    obtain ⟨g, rfl, hb⟩ := h1
    obtain ⟨g2, rfl, hb2⟩ := h2
    refine ⟨_, _, _, 0, _, rfl, rfl, (nums_blk hb.b rfl).keepO ho (fun k hk hGk => ?_), nums_blk hb2.b rfl, .inl ⟨rfl, rfl, rfl, rfl⟩⟩
    have e : g = k := by simpa [Value.ownBlock] using hk
    have := hG k hGk
    have := hb.lo
    omega
  · dsimp only at q1 q2 q3
    subst q1 q3
    obtain ⟨ev, rfl, hv⟩ := h1
    obtain ⟨pv, rfl, hs⟩ := h2
    exact ⟨_, _, _, 3, _, rfl, rfl, nums_nil _, nums_nil _, .inr ⟨i, rfl, rfl, ErrV.only ho (fun k cs hk hb => hF k cs hb hk) hv, hs⟩⟩
end Go.Proofs.YtkkgpdejmcpcpaaGreatDoor

