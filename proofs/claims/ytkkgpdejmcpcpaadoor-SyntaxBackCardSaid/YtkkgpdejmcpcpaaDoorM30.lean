/- Parts: XFew20, XFew, XCopied20, XOpenSq, XFewSq. -/
import Derived.Test.YtkkgpdejmcpcpaaDoorM29
import Derived.Lib.MinMax
import Derived.Test.YtkkgpdejmcpcpaaDoorM18
import Derived.Test.YtkkgpdejmcpcpaaDoorM14
import Derived.Test.YtkkgpdejmcpcpaaDoorM20
import Derived.Laws.IdiomArrays
/- Chapter 20: how many levels a square has. -/
namespace Go.Proofs.YtkkgpdejmcpcpaaDoor
open Go.RowKit

def sumL : List Nat → Nat
  | [] => 0
  | n :: r => min n 20001 + sumL r
set_option maxRecDepth 100000 in
set_option maxHeartbeats 2000000 in
theorem weighs_any (k mode m0 m1 m2 m3 x y : Int) (A0 A1 A2 A3 A4 : Option Addr) (n0 n1 n2 n3 n4 c0 c1 c2 c3 c4 : Nat) (w : World)
    (h0 : n0 ≤ maxLen) (h1 : n1 ≤ maxLen) (h2 : n2 ≤ maxLen) (h3 : n3 ≤ maxLen) (h4 : n4 ≤ maxLen) :
    Calls Tryd.prog 24 #[sqV k mode m0 m1 m2 m3 x y (.slice A0 n0 c0) (.slice A1 n1 c1) (.slice A2 n2 c2) (.slice A3 n3 c3) (.slice A4 n4 c4)] w fun e w' => e = .returned (.int .i64 (sumL [n0, n1, n2, n3, n4] : Nat)) ∧ Below w.heap.size w w' := by
  unfold sqV
  have hb1 : Below w.heap.size w (w.alloc (.cells #[.int .i64 k, .int .i64 mode, .int .i64 m0, .int .i64 m1, .int .i64 m2, .int .i64 m3, .int .i64 x, .int .i64 y, .slice A0 n0 c0, .slice A1 n1 c1, .slice A2 n2 c2, .slice A3 n3 c3, .slice A4 n4 c4] 60)) := (Below.refl _ _).alloc (Nat.le_refl _) _
  have B1 := hid hb1
  have HK := hid (Blk.new w 60 #[.int .i64 k, .int .i64 mode, .int .i64 m0, .int .i64 m1, .int .i64 m2, .int .i64 m3, .int .i64 x, .int .i64 y, .slice A0 n0 c0, .slice A1 n1 c1, .slice A2 n2 c2, .slice A3 n3 c3, .slice A4 n4 c4])
  clear hb1
  unfold maxLen at h0 h1 h2 h3 h4
  have i0 : (n0 : Int) ≤ 9223372036854775807 := by omega
  have i1 : (n1 : Int) ≤ 9223372036854775807 := by omega
  have i2 : (n2 : Int) ≤ 9223372036854775807 := by omega
  have i3 : (n3 : Int) ≤ 9223372036854775807 := by omega
  have i4 : (n4 : Int) ≤ 9223372036854775807 := by omega
  have TOT := hid (show sumL [n0, n1, n2, n3, n4] = min n0 20001 + sumL ([n1, n2, n3, n4].drop 0) from rfl)
  generalize sumL [n0, n1, n2, n3, n4] = tot at *
  clear h0 h1 h2 h3 h4
  go_enter Tryd.func24, Tryd.ntmps24
  go_wp2_with fail
  generalize hw1 : w.alloc (.cells #[.int .i64 k, .int .i64 mode, .int .i64 m0, .int .i64 m1, .int .i64 m2, .int .i64 m3, .int .i64 x, .int .i64 y, .slice A0 n0 c0, .slice A1 n1 c1, .slice A2 n2 c2, .slice A3 n3 c3, .slice A4 n4 c4] 60) = w1 at *
  clear hw1
  have d9 : w1.cell? ⟨w.heap.size, 9, none⟩ = some (.slice A1 n1 c1) := by simpa using HK.out.cell 9
  have d10 : w1.cell? ⟨w.heap.size, 10, none⟩ = some (.slice A2 n2 c2) := by simpa using HK.out.cell 10
  have d11 : w1.cell? ⟨w.heap.size, 11, none⟩ = some (.slice A3 n3 c3) := by simpa using HK.out.cell 11
  have d12 : w1.cell? ⟨w.heap.size, 12, none⟩ = some (.slice A4 n4 c4) := by simpa using HK.out.cell 12
  go_loopg [3, 4] 4 (fun j nv iv wr => ∃ i n : Nat, i + j = 4 ∧ iv = .int .i64 i ∧ nv = .int .i64 n ∧ n ≤ 20001 * (i + 1) ∧ w1 = wr ∧ tot = n + sumL ([n1, n2, n3, n4].drop i))
  case atStart => exact ⟨0, min n0 20001, by omega, rfl, by go_num, by omega, rfl, TOT.out⟩
  case round =>
    obtain ⟨i, n, hij, rfl, rfl, hn, rfl, hq⟩ := hrel
    have HQ := hid (And.intro hij (And.intro hq hn))
    have hnb : (0 : Int) ≤ (n : Int) ∧ (n : Int) ≤ 2000000 := by omega
    have hci : i = 4 ∨ i = 0 ∨ i = 1 ∨ i = 2 ∨ i = 3 := by omega
    clear hij hq hn
    rcases hci with rfl | rfl | rfl | rfl | rfl
    · go_wp2_with fail
      go_ret
      refine ⟨?_, B1.out⟩
      rw [HQ.out.2.1]
      rfl
    all_goals
      go_wp2_with fail
      go_roundg (gk - 1)
      case measure => have := HQ.out.1; omega
      case rel =>
        first
          | exact ⟨1, n + min n1 20001, by have := HQ.out.1; omega, by go_num, by go_num, by have := HQ.out.2.2; omega, rfl, by rw [HQ.out.2.1, Nat.add_assoc]; rfl⟩
          | exact ⟨2, n + min n2 20001, by have := HQ.out.1; omega, by go_num, by go_num, by have := HQ.out.2.2; omega, rfl, by rw [HQ.out.2.1, Nat.add_assoc]; rfl⟩
          | exact ⟨3, n + min n3 20001, by have := HQ.out.1; omega, by go_num, by go_num, by have := HQ.out.2.2; omega, rfl, by rw [HQ.out.2.1, Nat.add_assoc]; rfl⟩
          | exact ⟨4, n + min n4 20001, by have := HQ.out.1; omega, by go_num, by go_num, by have := HQ.out.2.2; omega, rfl, by rw [HQ.out.2.1, Nat.add_assoc]; rfl⟩
end Go.Proofs.YtkkgpdejmcpcpaaDoor

/- Chapter 14: lists of lists: few; a list copied. -/
namespace Go.Proofs.YtkkgpdejmcpcpaaDoor
open Go.RowKit

theorem nums_of_els {w : World} {x : Value} {l : List Int} (h : Els w 1 IntR x l) : Nums w x l := by
  obtain ⟨A, c, h1, h2, h3⟩ := h
  refine ⟨A, c, h1, h2, fun h0 => ?_⟩
  obtain ⟨b, off, h4, h5, h6⟩ := h3 h0
  refine ⟨b, off, h4, h5, fun i v hv => ?_⟩
  obtain ⟨cs, _, ⟨rfl, _⟩, h8⟩ := h6 i v hv
  simpa using h8 0 _ rfl
/-- A list of the argument, as it lies. -/
theorem ints_at {w : World} {A : Option Addr} {n c : Nat} {l : List (List Int)} (h : Els w 1 (IntsR w) (.slice A n c) l) {i : Nat} {zs : List Int} (hz : l[i]? = some zs) :
    ∃ b off A' c', A = some ⟨b, off, none⟩ ∧ b < w.heap.size ∧ w.cell? ⟨b, off + i, none⟩ = some (.slice A' zs.length c') ∧ Nums w (.slice A' zs.length c') zs ∧ zs.length ≤ maxLen := by
  obtain ⟨b, off, cs, e, hb, _, ⟨v, rfl, hE, hm⟩, hc⟩ := Els.at_ h hz
  obtain ⟨A', c', rfl, _⟩ := Els.form hE
  exact ⟨b, off, A', c', e, hb, by simpa using hc 0 _ rfl, nums_of_els hE, hm⟩
theorem one_intV (l : List Int) : ∀ u ∈ l.map intV, u.oneCell' = true := by
  intro u hu
  obtain ⟨z, _, rfl⟩ := List.mem_map.1 hu
  rfl
theorem copy_ints (x : Value) (l : List Int) (w : World) (hx : Nums w x l) (hl : l.length ≤ 1000000) :
    Calls Tryd.prog 45 #[x] w fun e w' => ∃ g cap, e = .returned (.slice (some ⟨g, 0, none⟩) l.length cap) ∧ w'.ownsRow w.heap.size 3 1 (.slice (some ⟨g, 0, none⟩) l.length cap) l.length (l.map intV) ∧ Below w.heap.size w w' := by
  obtain ⟨i0, hi0, hz0, hz1, hz2⟩ := info_parts info_int1
  have hfrom := (hx.below ((Below.refl w.heap.size w).alloc (Nat.le_refl _) (.cells #[] 3))).from_
  have F := hid hfrom
  clear hfrom hx
  go_enter Tryd.func45, Tryd.ntmps45
  go_wp2_with (at_builtin; refine wpList_append_form _ rfl _ _ _ rfl w.heap.size 3 i0 (.int .i64 0) 1 8 Tryd.underlying57 hi0 hz0 hz1 hz2 rfl (by omega) (.slice (some ⟨w.heap.size, 0, none⟩) 0 0) 0 [] rfl (World.ownsRow_lit w #[] 0 (Nat.le_refl _) (by unfold maxLen; omega) rfl) x l.length (l.map intV) rfl F.out (one_intV l) (.inl (by simp [Value.ownBlock])) (by unfold maxLen; omega) (by omega) (by simp) l.length (l.map intV) (by simp) (by simp) ?_; intro g cap w1 hown hgrow hat hlt)
  have hb : Below w.heap.size w w1 := ((Below.refl _ _).alloc (Nat.le_refl _) _).grown hgrow (by simp) (fun k hk => by simp [Value.ownBlock] at hk; omega)
  go_ret
  exact ⟨g, cap, rfl, hown, hb⟩
end Go.Proofs.YtkkgpdejmcpcpaaDoor

/- Chapter 20: a square copied. -/
namespace Go.Proofs.YtkkgpdejmcpcpaaDoor
open Go.RowKit

/-- A list of one's own. -/
def Own1 (w W : World) (v : Value) (l : List Int) : Prop := ∃ g cap, v = .slice (some ⟨g, 0, none⟩) l.length cap ∧ w.heap.size + 2 ≤ g ∧ NOff v l W (fun _ => False)
theorem Own1.below {w W W' : World} {v : Value} {l : List Int} (h : Own1 w W v l) (hb : Below W.heap.size W W') : Own1 w W' v l := by
  obtain ⟨g, cap, h1, h2, h3⟩ := h
  exact ⟨g, cap, h1, h2, h3.below hb⟩
theorem Own1.put {w W : World} {v : Value} {l : List Int} (h : Own1 w W v l) {ob : Nat} (ho : ob < w.heap.size + 2) (i : Nat) (u : Value) : Own1 w (W.setCell ⟨ob, i, none⟩ u) v l := by
  obtain ⟨g, cap, h1, h2, h3⟩ := h
  subst h1
  refine ⟨g, cap, rfl, h2, h3.put (fun k hk => ?_) i u⟩
  simp [Value.ownBlock] at hk
  omega
theorem Own1.of {w W W' : World} {g cap : Nat} {l : List Int} (h : W'.ownsRow W.heap.size 3 1 (.slice (some ⟨g, 0, none⟩) l.length cap) l.length (l.map intV)) (hs : w.heap.size + 2 ≤ W.heap.size) : Own1 w W' (.slice (some ⟨g, 0, none⟩) l.length cap) l := by
  have hn := Nums.of_own h rfl
  rcases h.2 with ⟨h1, _⟩ | ⟨g', cap', cur, h1, h2, h3, _⟩
  · injection h1 with h1; cases h1
  · obtain ⟨rfl, rfl⟩ : g = g' ∧ cap = cap' := by simpa using h1
    refine ⟨g, cap, rfl, by omega, hn, fun _ _ hf => hf, fun k hk => ?_⟩
    simp [Value.ownBlock] at hk
    subst hk
    exact (Array.getElem?_eq_some_iff.1 h3).1
/-- The square's block, the answer's block. -/
structure CpW (w W : World) (cs : Array Value) : Prop where
  box : Blk W w.heap.size 60 cs
  res : Blk W (w.heap.size + 1) 60 #[.int .i64 0, .int .i64 0, .int .i64 0, .int .i64 0, .int .i64 0, .int .i64 0, .int .i64 0, .int .i64 0, nilS, nilS, nilS, nilS, nilS]
  b : Below w.heap.size w W
theorem CpW.new (w : World) (cs : Array Value) : CpW w ((w.alloc (.cells cs 60)).alloc (.cells #[.int .i64 0, .int .i64 0, .int .i64 0, .int .i64 0, .int .i64 0, .int .i64 0, .int .i64 0, .int .i64 0, nilS, nilS, nilS, nilS, nilS] 60)) cs :=
  ⟨(Blk.new _ _ _).alloc _, Blk.newAt' _ _ _ (by simp), ((Below.refl _ _).alloc (Nat.le_refl _) _).alloc (by simp) _⟩
theorem CpW.step {w W W' : World} {cs : Array Value} (h : CpW w W cs) (hb : Below W.heap.size W W') : CpW w W' cs :=
  ⟨h.box.below hb h.box.lt, h.res.below hb h.res.lt, h.b.trans (hb.mono h.b.size)⟩
theorem CpW.put {w W : World} {cs : Array Value} (h : CpW w W cs) (i : Nat) (u : Value) : CpW w (W.setCell ⟨w.heap.size, i, none⟩ u) (cs.setIfInBounds i u) :=
  ⟨h.box.put i u, h.res.far (p := ⟨w.heap.size, i, none⟩) (by show w.heap.size + 1 ≠ w.heap.size; omega) _, h.b.setCell (p := ⟨w.heap.size, i, none⟩) (Nat.le_refl _) _⟩
theorem CpW.room {w W : World} {cs : Array Value} (h : CpW w W cs) : w.heap.size + 2 ≤ W.heap.size := by have := h.res.lt; omega
theorem Below.put13 {w W : World} {ob : Nat} (h : Below w.heap.size w W) (lo : w.heap.size ≤ ob) (k mode m0 m1 m2 m3 x y : Int) (lv v0 v1 v2 v3 : Value) : Below w.heap.size w (((((((((((((W.setCell ⟨ob, 0, none⟩ (.int .i64 k)).setCell ⟨ob, 1, none⟩ (.int .i64 mode)).setCell ⟨ob, 2, none⟩ (.int .i64 m0)).setCell ⟨ob, 3, none⟩ (.int .i64 m1)).setCell ⟨ob, 4, none⟩ (.int .i64 m2)).setCell ⟨ob, 5, none⟩ (.int .i64 m3)).setCell ⟨ob, 6, none⟩ (.int .i64 x)).setCell ⟨ob, 7, none⟩ (.int .i64 y)).setCell ⟨ob, 8, none⟩ lv).setCell ⟨ob, 9, none⟩ v0).setCell ⟨ob, 10, none⟩ v1).setCell ⟨ob, 11, none⟩ v2).setCell ⟨ob, 12, none⟩ v3) :=
  ((((((((((((h.setCell (p := ⟨ob, 0, none⟩) lo _).setCell (p := ⟨ob, 1, none⟩) lo _).setCell (p := ⟨ob, 2, none⟩) lo _).setCell (p := ⟨ob, 3, none⟩) lo _).setCell (p := ⟨ob, 4, none⟩) lo _).setCell (p := ⟨ob, 5, none⟩) lo _).setCell (p := ⟨ob, 6, none⟩) lo _).setCell (p := ⟨ob, 7, none⟩) lo _).setCell (p := ⟨ob, 8, none⟩) lo _).setCell (p := ⟨ob, 9, none⟩) lo _).setCell (p := ⟨ob, 10, none⟩) lo _).setCell (p := ⟨ob, 11, none⟩) lo _).setCell (p := ⟨ob, 12, none⟩) lo _
theorem Own1.put13 {w W : World} {v : Value} {l : List Int} (h : Own1 w W v l) {ob : Nat} (ho : ob < w.heap.size + 2) (k mode m0 m1 m2 m3 x y : Int) (lv v0 v1 v2 v3 : Value) : Own1 w (((((((((((((W.setCell ⟨ob, 0, none⟩ (.int .i64 k)).setCell ⟨ob, 1, none⟩ (.int .i64 mode)).setCell ⟨ob, 2, none⟩ (.int .i64 m0)).setCell ⟨ob, 3, none⟩ (.int .i64 m1)).setCell ⟨ob, 4, none⟩ (.int .i64 m2)).setCell ⟨ob, 5, none⟩ (.int .i64 m3)).setCell ⟨ob, 6, none⟩ (.int .i64 x)).setCell ⟨ob, 7, none⟩ (.int .i64 y)).setCell ⟨ob, 8, none⟩ lv).setCell ⟨ob, 9, none⟩ v0).setCell ⟨ob, 10, none⟩ v1).setCell ⟨ob, 11, none⟩ v2).setCell ⟨ob, 12, none⟩ v3) v l :=
  ((((((((((((h.put ho 0 _).put ho 1 _).put ho 2 _).put ho 3 _).put ho 4 _).put ho 5 _).put ho 6 _).put ho 7 _).put ho 8 _).put ho 9 _).put ho 10 _).put ho 11 _).put ho 12 _
set_option maxRecDepth 100000 in
set_option maxHeartbeats 4000000 in
theorem copied_any (k mode m0 m1 m2 m3 x y : Int) (lv v0 v1 v2 v3 : Value) (ll l0 l1 l2 l3 : List Int) (w : World)
    (hn : Nums w lv ll ∧ Nums w v0 l0 ∧ Nums w v1 l1 ∧ Nums w v2 l2 ∧ Nums w v3 l3) (hl : ll.length ≤ 1000000 ∧ l0.length ≤ 1000000 ∧ l1.length ≤ 1000000 ∧ l2.length ≤ 1000000 ∧ l3.length ≤ 1000000) :
    Calls Tryd.prog 26 #[sqV k mode m0 m1 m2 m3 x y lv v0 v1 v2 v3] w fun e w' => ∃ lu u0 u1 u2 u3, e = .returned (sqV k mode m0 m1 m2 m3 x y lu u0 u1 u2 u3) ∧ Below w.heap.size w w' ∧ Own1 w w' lu ll ∧ Own1 w w' u0 l0 ∧ Own1 w w' u1 l1 ∧ Own1 w w' u2 l2 ∧ Own1 w w' u3 l3 := by
  have AW := hid (CpW.new w #[.int .i64 k, .int .i64 mode, .int .i64 m0, .int .i64 m1, .int .i64 m2, .int .i64 m3, .int .i64 x, .int .i64 y, lv, v0, v1, v2, v3])
  have N := hid hn
  have LL := hid hl
  clear hn hl
  unfold sqV
  go_enter Tryd.func26, Tryd.ntmps26
  go_wp2_with fail
  generalize ((w.alloc _).alloc _ : World) = w1 at *
  refine (copy_ints lv ll _ (N.out.1.below AW.out.b) LL.out.1).mono ?_
  rintro e w2 ⟨g, cap, rfl, hown, hb2⟩
  have A2 := AW.out.step hb2
  have c8 : w2.cell? ⟨w.heap.size, 8, none⟩ = some lv := by simpa using A2.box.cell 8
  have f8 := A2.box.frozen 8
  have O2 := hid (And.intro (show CpW w (w2.setCell ⟨w.heap.size, 8, none⟩ (.slice (some ⟨g, 0, none⟩) ll.length cap)) #[.int .i64 k, .int .i64 mode, .int .i64 m0, .int .i64 m1, .int .i64 m2, .int .i64 m3, .int .i64 x, .int .i64 y, (.slice (some ⟨g, 0, none⟩) ll.length cap), v0, v1, v2, v3] from A2.put 8 _) ((Own1.of (w := w) hown AW.out.room).put (ob := w.heap.size) (by omega) 8 (.slice (some ⟨g, 0, none⟩) ll.length cap)))
  clear hown hb2 A2
  go_wp2_with fail
  generalize w2.setCell ⟨w.heap.size, 8, none⟩ (.slice (some ⟨g, 0, none⟩) ll.length cap) = w3 at *
  clear c8 f8
  go_loopg [3] 4 (fun j iv wr => ∃ (i : Nat) (u0 u1 u2 u3 : Value), i + j = 4 ∧ iv = .int .i64 i ∧ CpW w wr #[.int .i64 k, .int .i64 mode, .int .i64 m0, .int .i64 m1, .int .i64 m2, .int .i64 m3, .int .i64 x, .int .i64 y, (.slice (some ⟨g, 0, none⟩) ll.length cap), u0, u1, u2, u3] ∧ Own1 w wr (.slice (some ⟨g, 0, none⟩) ll.length cap) ll ∧ (if 0 < i then Own1 w wr u0 l0 else u0 = v0) ∧ (if 1 < i then Own1 w wr u1 l1 else u1 = v1) ∧ (if 2 < i then Own1 w wr u2 l2 else u2 = v2) ∧ (if 3 < i then Own1 w wr u3 l3 else u3 = v3))
  case atStart => exact ⟨0, v0, v1, v2, v3, by omega, rfl, O2.out.1, O2.out.2, rfl, rfl, rfl, rfl⟩
  case round =>
    obtain ⟨i, u0, u1, u2, u3, hij, rfl, hA, hO, hu0, hu1, hu2, hu3⟩ := hrel
    have IJ := hid hij
    have hci : i = 4 ∨ i = 0 ∨ i = 1 ∨ i = 2 ∨ i = 3 := by omega
    clear hij
    rcases hci with rfl | rfl | rfl | rfl | rfl
    · have hu := hid (And.intro hO (And.intro (show Own1 w wr u0 l0 from hu0) (And.intro (show Own1 w wr u1 l1 from hu1) (And.intro (show Own1 w wr u2 l2 from hu2) (show Own1 w wr u3 l3 from hu3)))))
      clear hu0 hu1 hu2 hu3 hO
      obtain ⟨h0g, h0c, rfl, _⟩ := id hu.out.2.1
      obtain ⟨h1g, h1c, rfl, _⟩ := id hu.out.2.2.1
      obtain ⟨h2g, h2c, rfl, _⟩ := id hu.out.2.2.2.1
      obtain ⟨h3g, h3c, rfl, _⟩ := id hu.out.2.2.2.2
      have hbox := SqBlk.of hA.box rfl
      have hres : SqBlk wr (w.heap.size + 1) 60 0 0 [] 0 0 nilS [] := SqBlk.new hA.res rfl
      have BB := hid hA.b
      obtain ⟨⟨q0, q1⟩, ⟨q2, q3, q4, q5⟩, ⟨q6, q7, q8⟩, q9, q10, q11, q12⟩ := hbox.all4
      obtain ⟨⟨r0, r1⟩, ⟨r2, r3, r4, r5⟩, ⟨r6, r7, r8⟩, r9, r10, r11, r12⟩ := hres.all4'
      have f0 := hres.frozen 0
      have f1 := hres.frozen 1
      have f2 := hres.frozen 2
      have f3 := hres.frozen 3
      have f4 := hres.frozen 4
      have f5 := hres.frozen 5
      have f6 := hres.frozen 6
      have f7 := hres.frozen 7
      have f8 := hres.frozen 8
      have f9 := hres.frozen 9
      have f10 := hres.frozen 10
      have f11 := hres.frozen 11
      have f12 := hres.frozen 12
      have RS := hid hres
      clear hA hbox hres
      go_wp2_with fail
      obtain ⟨⟨z0, z1⟩, ⟨z2, z3, z4, z5⟩, ⟨z6, z7, z8⟩, z9, z10, z11, z12⟩ := (RS.out.set13 k mode m0 m1 m2 m3 x y (.slice (some ⟨g, 0, none⟩) ll.length cap) (.slice (some ⟨h0g, 0, none⟩) l0.length h0c) (.slice (some ⟨h1g, 0, none⟩) l1.length h1c) (.slice (some ⟨h2g, 0, none⟩) l2.length h2c) (.slice (some ⟨h3g, 0, none⟩) l3.length h3c)).all4
      exact bodyPost_ret (v := sqV k mode m0 m1 m2 m3 x y (.slice (some ⟨g, 0, none⟩) ll.length cap) (.slice (some ⟨h0g, 0, none⟩) l0.length h0c) (.slice (some ⟨h1g, 0, none⟩) l1.length h1c) (.slice (some ⟨h2g, 0, none⟩) l2.length h2c) (.slice (some ⟨h3g, 0, none⟩) l3.length h3c)) (by simp [sqV, results, Tryd.results26, go_sem, z0, z1, z2, z3, z4, z5, z6, z7, z8, z9, z10, z11, z12]) rfl ⟨_, _, _, _, _, rfl, Below.put13 BB.out (by omega) _ _ _ _ _ _ _ _ _ _ _ _ _, hu.out.1.put13 (by omega) _ _ _ _ _ _ _ _ _ _ _ _ _, hu.out.2.1.put13 (by omega) _ _ _ _ _ _ _ _ _ _ _ _ _, hu.out.2.2.1.put13 (by omega) _ _ _ _ _ _ _ _ _ _ _ _ _, hu.out.2.2.2.1.put13 (by omega) _ _ _ _ _ _ _ _ _ _ _ _ _, hu.out.2.2.2.2.put13 (by omega) _ _ _ _ _ _ _ _ _ _ _ _ _⟩
    · obtain rfl : u0 = v0 := hu0; obtain rfl : u1 = v1 := hu1; obtain rfl : u2 = v2 := hu2; obtain rfl : u3 = v3 := hu3
      have HU := hid (And.intro hA (And.intro hO True.intro))
      have c9 : wr.cell? ⟨w.heap.size, 9, none⟩ = some u0 := by simpa using hA.box.cell 9
      clear hA hO
      go_wp2_with fail
      refine (copy_ints u0 l0 _ (N.out.2.1.below HU.out.1.b) LL.out.2.1).mono ?_
      rintro e w4 ⟨g4, cap4, rfl, hown, hb4⟩
      have A4 := HU.out.1.step hb4
      have d9 : w4.cell? ⟨w.heap.size, 9, none⟩ = some u0 := by simpa using A4.box.cell 9
      have f9 := A4.box.frozen 9
      have O4 := hid (And.intro (show CpW w (w4.setCell ⟨w.heap.size, 9, none⟩ (.slice (some ⟨g4, 0, none⟩) l0.length cap4)) #[.int .i64 k, .int .i64 mode, .int .i64 m0, .int .i64 m1, .int .i64 m2, .int .i64 m3, .int .i64 x, .int .i64 y, (.slice (some ⟨g, 0, none⟩) ll.length cap), (.slice (some ⟨g4, 0, none⟩) l0.length cap4), u1, u2, u3] from A4.put 9 _) ((Own1.of (w := w) hown HU.out.1.room).put (ob := w.heap.size) (by omega) 9 (.slice (some ⟨g4, 0, none⟩) l0.length cap4)))
      have B4 := hid hb4
      clear hown hb4 A4
      go_wp2_with fail
      go_roundg (gk - 1)
      case measure => have := IJ.out; omega
      case rel => exact ⟨1, _, u1, u2, u3, by have := IJ.out; omega, by go_num, O4.out.1, (HU.out.2.1.below B4.out).put (ob := w.heap.size) (by omega) _ _, O4.out.2, rfl, rfl, rfl⟩
    · obtain rfl : u1 = v1 := hu1; obtain rfl : u2 = v2 := hu2; obtain rfl : u3 = v3 := hu3
      have HU := hid (And.intro hA (And.intro hO (And.intro (show Own1 w wr u0 l0 from hu0) True.intro)))
      have c10 : wr.cell? ⟨w.heap.size, 10, none⟩ = some u1 := by simpa using hA.box.cell 10
      clear hA hO hu0
      go_wp2_with fail
      refine (copy_ints u1 l1 _ (N.out.2.2.1.below HU.out.1.b) LL.out.2.2.1).mono ?_
      rintro e w4 ⟨g4, cap4, rfl, hown, hb4⟩
      have A4 := HU.out.1.step hb4
      have d10 : w4.cell? ⟨w.heap.size, 10, none⟩ = some u1 := by simpa using A4.box.cell 10
      have f10 := A4.box.frozen 10
      have O4 := hid (And.intro (show CpW w (w4.setCell ⟨w.heap.size, 10, none⟩ (.slice (some ⟨g4, 0, none⟩) l1.length cap4)) #[.int .i64 k, .int .i64 mode, .int .i64 m0, .int .i64 m1, .int .i64 m2, .int .i64 m3, .int .i64 x, .int .i64 y, (.slice (some ⟨g, 0, none⟩) ll.length cap), u0, (.slice (some ⟨g4, 0, none⟩) l1.length cap4), u2, u3] from A4.put 10 _) ((Own1.of (w := w) hown HU.out.1.room).put (ob := w.heap.size) (by omega) 10 (.slice (some ⟨g4, 0, none⟩) l1.length cap4)))
      have B4 := hid hb4
      clear hown hb4 A4
      go_wp2_with fail
      go_roundg (gk - 1)
      case measure => have := IJ.out; omega
      case rel => exact ⟨2, u0, _, u2, u3, by have := IJ.out; omega, by go_num, O4.out.1, (HU.out.2.1.below B4.out).put (ob := w.heap.size) (by omega) _ _, ((HU.out.2.2.1).below B4.out).put (ob := w.heap.size) (by omega) _ _, O4.out.2, rfl, rfl⟩
    · obtain rfl : u2 = v2 := hu2; obtain rfl : u3 = v3 := hu3
      have HU := hid (And.intro hA (And.intro hO (And.intro (show Own1 w wr u0 l0 from hu0) (And.intro (show Own1 w wr u1 l1 from hu1) True.intro))))
      have c11 : wr.cell? ⟨w.heap.size, 11, none⟩ = some u2 := by simpa using hA.box.cell 11
      clear hA hO hu0 hu1
      go_wp2_with fail
      refine (copy_ints u2 l2 _ (N.out.2.2.2.1.below HU.out.1.b) LL.out.2.2.2.1).mono ?_
      rintro e w4 ⟨g4, cap4, rfl, hown, hb4⟩
      have A4 := HU.out.1.step hb4
      have d11 : w4.cell? ⟨w.heap.size, 11, none⟩ = some u2 := by simpa using A4.box.cell 11
      have f11 := A4.box.frozen 11
      have O4 := hid (And.intro (show CpW w (w4.setCell ⟨w.heap.size, 11, none⟩ (.slice (some ⟨g4, 0, none⟩) l2.length cap4)) #[.int .i64 k, .int .i64 mode, .int .i64 m0, .int .i64 m1, .int .i64 m2, .int .i64 m3, .int .i64 x, .int .i64 y, (.slice (some ⟨g, 0, none⟩) ll.length cap), u0, u1, (.slice (some ⟨g4, 0, none⟩) l2.length cap4), u3] from A4.put 11 _) ((Own1.of (w := w) hown HU.out.1.room).put (ob := w.heap.size) (by omega) 11 (.slice (some ⟨g4, 0, none⟩) l2.length cap4)))
      have B4 := hid hb4
      clear hown hb4 A4
      go_wp2_with fail
      go_roundg (gk - 1)
      case measure => have := IJ.out; omega
      case rel => exact ⟨3, u0, u1, _, u3, by have := IJ.out; omega, by go_num, O4.out.1, (HU.out.2.1.below B4.out).put (ob := w.heap.size) (by omega) _ _, ((HU.out.2.2.1).below B4.out).put (ob := w.heap.size) (by omega) _ _, ((HU.out.2.2.2.1).below B4.out).put (ob := w.heap.size) (by omega) _ _, O4.out.2, rfl⟩
    · obtain rfl : u3 = v3 := hu3
      have HU := hid (And.intro hA (And.intro hO (And.intro (show Own1 w wr u0 l0 from hu0) (And.intro (show Own1 w wr u1 l1 from hu1) (And.intro (show Own1 w wr u2 l2 from hu2) True.intro)))))
      have c12 : wr.cell? ⟨w.heap.size, 12, none⟩ = some u3 := by simpa using hA.box.cell 12
      clear hA hO hu0 hu1 hu2
      go_wp2_with fail
      refine (copy_ints u3 l3 _ (N.out.2.2.2.2.below HU.out.1.b) LL.out.2.2.2.2).mono ?_
      rintro e w4 ⟨g4, cap4, rfl, hown, hb4⟩
      have A4 := HU.out.1.step hb4
      have d12 : w4.cell? ⟨w.heap.size, 12, none⟩ = some u3 := by simpa using A4.box.cell 12
      have f12 := A4.box.frozen 12
      have O4 := hid (And.intro (show CpW w (w4.setCell ⟨w.heap.size, 12, none⟩ (.slice (some ⟨g4, 0, none⟩) l3.length cap4)) #[.int .i64 k, .int .i64 mode, .int .i64 m0, .int .i64 m1, .int .i64 m2, .int .i64 m3, .int .i64 x, .int .i64 y, (.slice (some ⟨g, 0, none⟩) ll.length cap), u0, u1, u2, (.slice (some ⟨g4, 0, none⟩) l3.length cap4)] from A4.put 12 _) ((Own1.of (w := w) hown HU.out.1.room).put (ob := w.heap.size) (by omega) 12 (.slice (some ⟨g4, 0, none⟩) l3.length cap4)))
      have B4 := hid hb4
      clear hown hb4 A4
      go_wp2_with fail
      go_roundg (gk - 1)
      case measure => have := IJ.out; omega
      case rel => exact ⟨4, u0, u1, u2, _, by have := IJ.out; omega, by go_num, O4.out.1, (HU.out.2.1.below B4.out).put (ob := w.heap.size) (by omega) _ _, ((HU.out.2.2.1).below B4.out).put (ob := w.heap.size) (by omega) _ _, ((HU.out.2.2.2.1).below B4.out).put (ob := w.heap.size) (by omega) _ _, ((HU.out.2.2.2.2.1).below B4.out).put (ob := w.heap.size) (by omega) _ _, O4.out.2⟩
end Go.Proofs.YtkkgpdejmcpcpaaDoor

/- Arguments opened: a square; a slice of squares. -/
namespace Go.Proofs.YtkkgpdejmcpcpaaDoor
open Go.ChangeShapes Go.WideShapes Go.ChangeAt Go.RowKit Go.Deep

/-- A square's lists, as they lie. -/
structure SqLies (w : World) (s : SqS) (lv v0 v1 v2 v3 : Value) (m0 m1 m2 m3 : Int) (l0 l1 l2 l3 : List Int) : Prop where
  em : s.modes = [m0, m1, m2, m3]
  es : s.small = [l0, l1, l2, l3]
  nl : Nums w lv s.large ∧ s.large.length ≤ maxLen
  n0 : Nums w v0 l0 ∧ l0.length ≤ maxLen
  n1 : Nums w v1 l1 ∧ l1.length ≤ maxLen
  n2 : Nums w v2 l2 ∧ l2.length ≤ maxLen
  n3 : Nums w v3 l3 ∧ l3.length ≤ maxLen
def SquR (w : World) (s : SqS) (cs : List Value) : Prop :=
  ∃ lv v0 v1 v2 v3 m0 m1 m2 m3 l0 l1 l2 l3, cs = [.int .i64 s.kind, .int .i64 s.mode, .int .i64 m0, .int .i64 m1, .int .i64 m2, .int .i64 m3, .int .i64 s.x, .int .i64 s.y, lv, v0, v1, v2, v3] ∧ SqLies w s lv v0 v1 v2 v3 m0 m1 m2 m3 l0 l1 l2 l3
instance : Inhabited SqS := ⟨bareS 0⟩
section
variable {H : Type} {enc : TypeId × Value → H} {w : World} {base : Nat} {spare : Nat → Bool} {held : Bool}
theorem ints_of_trod {fuel : Nat} {v : Value} {x : DataW H × List MemPlace} (h : DataW.trod enc Tryd.prog w base spare held fuel 57 [v] = some x) : ∃ l : List Int, Nums w v l ∧ l.length ≤ maxLen := by
  have hv : ∃ A len cap, v = .slice A len cap := by
    rcases open_slice Tryd.underlying57 h with ⟨h1, _⟩ | ⟨a, l, c, _, _, _, _, h1, _⟩
    · injection h1 with h1; exact ⟨_, _, _, h1⟩
    · injection h1 with h1; exact ⟨_, _, _, h1⟩
  obtain ⟨A', len', cap', rfl⟩ := hv
  obtain ⟨bs, h1, h2, h3⟩ := open_ints2 (d := x.1) (p := x.2) ⟨fuel, by simpa [Value.cells] using h⟩
  subst h1
  exact ⟨bs, nums_of_els h2, h3⟩
set_option maxRecDepth 100000 in
set_option maxHeartbeats 1000000 in
theorem sq_of_trod {fuel : Nat} {cs : List Value} {x : DataW H × List MemPlace} (h : DataW.trod enc Tryd.prog w base spare held fuel 60 cs = some x) (hl : cs.length = 13) : ∃ s : SqS, SquR w s cs := by
  obtain ⟨ys, n', _, _, _, hyl, hfd⟩ := DataW.trod_struct Tryd.underlying60 h
  have c1 : Tryd.prog.cellsOf 3 = 1 := by kernel_rfl
  have c2 : Tryd.prog.cellsOf 54 = 4 := by kernel_rfl
  have c3 : Tryd.prog.cellsOf 56 = 2 := by kernel_rfl
  have c4 : Tryd.prog.cellsOf 57 = 1 := by kernel_rfl
  have c5 : Tryd.prog.cellsOf 58 = 4 := by kernel_rfl
  match cs, hl with
  | [a0, a1, a2, a3, a4, a5, a6, a7, a8, a9, a10, a11, a12], _ =>
    match ys, hyl with
    | [y0, y1, y2, y3, y4, y5], _ =>
      have g0 := hfd 0 _ rfl
      have g1 := hfd 1 _ rfl
      have g2 := hfd 2 _ rfl
      have g3 := hfd 3 _ rfl
      have g4 := hfd 4 _ rfl
      have g5 := hfd 5 _ rfl
      simp [c1, c2, c3, c4, c5] at g0 g1 g2 g3 g4 g5
      obtain ⟨z0, e0, _, _⟩ := DataW.trod_int Tryd.underlying3 g0
      obtain ⟨z1, e1, _, _⟩ := DataW.trod_int Tryd.underlying3 g1
      obtain ⟨_, _, _, _, _, _, k0, k1, k2, k3⟩ := trod_array4 Tryd.underlying54 c1 g2
      obtain ⟨z2, e2, _, _⟩ := DataW.trod_int Tryd.underlying3 k0
      obtain ⟨z3, e3, _, _⟩ := DataW.trod_int Tryd.underlying3 k1
      obtain ⟨z4, e4, _, _⟩ := DataW.trod_int Tryd.underlying3 k2
      obtain ⟨z5, e5, _, _⟩ := DataW.trod_int Tryd.underlying3 k3
      obtain ⟨us, n2, _, _, _, hul, hud⟩ := DataW.trod_struct Tryd.underlying56 g3
      match us, hul with
      | [u0, u1], _ =>
        have q0 := hud 0 _ rfl
        have q1 := hud 1 _ rfl
        simp [c1] at q0 q1
        obtain ⟨z6, e6, _, _⟩ := DataW.trod_int Tryd.underlying3 q0
        obtain ⟨z7, e7, _, _⟩ := DataW.trod_int Tryd.underlying3 q1
        obtain ⟨ll, hl1, hl2⟩ := ints_of_trod g4
        obtain ⟨_, _, _, _, _, _, p0, p1, p2, p3⟩ := trod_array4 Tryd.underlying58 c4 g5
        obtain ⟨l0, h01, h02⟩ := ints_of_trod p0
        obtain ⟨l1, h11, h12⟩ := ints_of_trod p1
        obtain ⟨l2, h21, h22⟩ := ints_of_trod p2
        obtain ⟨l3, h31, h32⟩ := ints_of_trod p3
        simp at e0 e1 e2 e3 e4 e5 e6 e7
        subst e0 e1 e2 e3 e4 e5 e6 e7
        exact ⟨{ bareS z0 with mode := z1, modes := [z2, z3, z4, z5], x := z6, y := z7, large := ll, small := [l0, l1, l2, l3] }, a8, a9, a10, a11, a12, z2, z3, z4, z5, l0, l1, l2, l3, rfl, rfl, rfl, ⟨hl1, hl2⟩, ⟨h01, h02⟩, ⟨h11, h12⟩, ⟨h21, h22⟩, ⟨h31, h32⟩⟩
theorem open_squares {A : Option Addr} {len cap : Nat} {d : DataW H} {p : List MemPlace} (h : DataW.Trod enc Tryd.prog w base spare held 67 (.slice A len cap) d p) :
    ∃ l : List SqS, l.length = len ∧ Els w 13 (SquR w) (.slice A len cap) l ∧ l.length ≤ maxLen :=
  open_gen Tryd.underlying67 (by kernel_rfl) (by omega) (SquR w) (fun fuel cs x hx hl => sq_of_trod hx hl) h
set_option maxRecDepth 100000 in
theorem open_square {r : Reach} {b0 : Nat} {v : Value} {d : DataW H} {p : List MemPlace} (hw : Value.okWide Tryd.prog w r b0 60 v) (h : DataW.Trod enc Tryd.prog w base spare held 60 v d p) :
    ∃ (s : SqS) (lv v0 v1 v2 v3 : Value) (m0 m1 m2 m3 : Int) (l0 l1 l2 l3 : List Int), v = sqV s.kind s.mode m0 m1 m2 m3 s.x s.y lv v0 v1 v2 v3 ∧ SqLies w s lv v0 v1 v2 v3 m0 m1 m2 m3 l0 l1 l2 l3 := by
  obtain ⟨cs, rfl, hs⟩ := okWide_struct Tryd.underlying60 hw
  have h5 : Tryd.prog.cellsOf 60 = 13 := by kernel_rfl
  obtain ⟨fuel, hf⟩ := h
  have hcl : cs.toList.length = 13 := by simp; omega
  rw [show (Value.agg cs).cells.toList = cs.toList from rfl] at hf
  obtain ⟨s, lv, v0, v1, v2, v3, m0, m1, m2, m3, l0, l1, l2, l3, he, hr⟩ := sq_of_trod hf hcl
  refine ⟨s, lv, v0, v1, v2, v3, m0, m1, m2, m3, l0, l1, l2, l3, ?_, hr⟩
  unfold sqV
  rw [← he]
end
end Go.Proofs.YtkkgpdejmcpcpaaDoor

/- Chapter 20: are squares few and small? -/
namespace Go.Proofs.YtkkgpdejmcpcpaaDoor
open Go.RowKit

def weighN (s : SqS) : Nat := sumL (s.large.length :: s.small.map List.length)
theorem sum5 {n0 n1 n2 n3 n4 : Nat} : sumL [n0, n1, n2, n3, n4] ≤ 100005 ∧ (sumL [n0, n1, n2, n3, n4] ≤ 20000 → n0 ≤ 20000 ∧ n1 ≤ 20000 ∧ n2 ≤ 20000 ∧ n3 ≤ 20000 ∧ n4 ≤ 20000) := by
  simp only [sumL]
  omega
theorem SqLies.weigh {w : World} {s : SqS} {lv v0 v1 v2 v3 : Value} {m0 m1 m2 m3 : Int} {l0 l1 l2 l3 : List Int} (h : SqLies w s lv v0 v1 v2 v3 m0 m1 m2 m3 l0 l1 l2 l3) : weighN s = sumL [s.large.length, l0.length, l1.length, l2.length, l3.length] := by
  unfold weighN
  rw [h.es]
  rfl
theorem SqLies.below {w w' : World} {s : SqS} {lv v0 v1 v2 v3 : Value} {m0 m1 m2 m3 : Int} {l0 l1 l2 l3 : List Int} (h : SqLies w s lv v0 v1 v2 v3 m0 m1 m2 m3 l0 l1 l2 l3) (hb : Below w.heap.size w w') : SqLies w' s lv v0 v1 v2 v3 m0 m1 m2 m3 l0 l1 l2 l3 :=
  ⟨h.em, h.es, ⟨h.nl.1.below hb, h.nl.2⟩, ⟨h.n0.1.below hb, h.n0.2⟩, ⟨h.n1.1.below hb, h.n1.2⟩, ⟨h.n2.1.below hb, h.n2.2⟩, ⟨h.n3.1.below hb, h.n3.2⟩⟩
theorem SquR.below {w w' : World} {s : SqS} {cs : List Value} (h : SquR w s cs) (hb : Below w.heap.size w w') : SquR w' s cs := by
  obtain ⟨lv, v0, v1, v2, v3, m0, m1, m2, m3, l0, l1, l2, l3, e, h⟩ := h
  exact ⟨lv, v0, v1, v2, v3, m0, m1, m2, m3, l0, l1, l2, l3, e, h.below hb⟩
/-- A square of the argument, as it lies. -/
theorem square_at {w : World} {A : Option Addr} {n c : Nat} {l : List SqS} (h : Els w 13 (SquR w) (.slice A n c) l) {i : Nat} {s : SqS} (hz : l[i]? = some s) :
    ∃ b off lv v0 v1 v2 v3 m0 m1 m2 m3 l0 l1 l2 l3, A = some ⟨b, off, none⟩ ∧ b < w.heap.size ∧ SqLies w s lv v0 v1 v2 v3 m0 m1 m2 m3 l0 l1 l2 l3 ∧
      ∀ W, Below w.heap.size w W → ((W.cell? ⟨b, off + i * 13, none⟩ = some (.int .i64 s.kind) ∧ W.cell? ⟨b, off + i * 13 + 1, none⟩ = some (.int .i64 s.mode)) ∧ (W.cell? ⟨b, off + i * 13 + 2, none⟩ = some (.int .i64 m0) ∧ W.cell? ⟨b, off + i * 13 + 3, none⟩ = some (.int .i64 m1) ∧ W.cell? ⟨b, off + i * 13 + 4, none⟩ = some (.int .i64 m2) ∧ W.cell? ⟨b, off + i * 13 + 5, none⟩ = some (.int .i64 m3)) ∧
      (W.cell? ⟨b, off + i * 13 + 6, none⟩ = some (.int .i64 s.x) ∧ W.cell? ⟨b, off + i * 13 + 7, none⟩ = some (.int .i64 s.y) ∧ W.cell? ⟨b, off + i * 13 + 8, none⟩ = some lv) ∧ (W.cell? ⟨b, off + i * 13 + 9, none⟩ = some v0 ∧ W.cell? ⟨b, off + i * 13 + 10, none⟩ = some v1 ∧ W.cell? ⟨b, off + i * 13 + 11, none⟩ = some v2 ∧ W.cell? ⟨b, off + i * 13 + 12, none⟩ = some v3)) := by
  obtain ⟨b, off, cs, e, hb, _, ⟨lv, v0, v1, v2, v3, m0, m1, m2, m3, l0, l1, l2, l3, rfl, hs⟩, hc⟩ := Els.at_ h hz
  refine ⟨b, off, lv, v0, v1, v2, v3, m0, m1, m2, m3, l0, l1, l2, l3, e, hb, hs, fun W hW => ?_⟩
  have k : ∀ (j : Nat) (u : Value), [Value.int .i64 s.kind, .int .i64 s.mode, .int .i64 m0, .int .i64 m1, .int .i64 m2, .int .i64 m3, .int .i64 s.x, .int .i64 s.y, lv, v0, v1, v2, v3][j]? = some u → W.cell? ⟨b, off + i * 13 + j, none⟩ = some u := fun j u hu =>
    (World.cell?_of_block (w := w) (a := ⟨b, off + i * 13 + j, none⟩) (hW.block b hb)).trans (hc j u hu)
  exact ⟨⟨k 0 _ rfl, k 1 _ rfl⟩, ⟨k 2 _ rfl, k 3 _ rfl, k 4 _ rfl, k 5 _ rfl⟩, ⟨k 6 _ rfl, k 7 _ rfl, k 8 _ rfl⟩, k 9 _ rfl, k 10 _ rfl, k 11 _ rfl, k 12 _ rfl⟩
set_option maxRecDepth 100000 in
set_option maxHeartbeats 2000000 in
theorem fewsq_any (x : Value) (l : List SqS) (w : World) (hx : Els w 13 (SquR w) x l) (hl : l.length ≤ maxLen) :
    Calls Tryd.prog 23 #[x] w fun e w' => ∃ q : Bool, e = .returned (.bool q) ∧ Below w.heap.size w w' ∧ (q = true → l.length ≤ 100 ∧ ∀ s ∈ l, weighN s ≤ 20000) := by
  obtain ⟨A, c, rfl, _⟩ := hx.form
  have X := hid (And.intro hx hl)
  have hl63 : (l.length : Int) ≤ 9223372036854775807 := by unfold maxLen at hl; omega
  clear hx hl
  go_enter Tryd.func23, Tryd.ntmps23
  go_wp2_with fail
  go_loopg [3, 4] 100 (fun k nv iv wr => ∃ (i n : Nat), i + k = 100 ∧ iv = .int .i64 i ∧ nv = .int .i64 n ∧ n ≤ 100005 * i ∧ i ≤ l.length ∧ (∀ j s, j < i → l[j]? = some s → weighN s ≤ n) ∧ Below w.heap.size w wr)
  case atStart => exact ⟨0, 0, by omega, rfl, rfl, by omega, by omega, fun j zs hj => by omega, Below.refl _ _⟩
  case round =>
    obtain ⟨i, n, hk, rfl, rfl, hn, hil, hall, hbel⟩ := hrel
    have HA := hid (And.intro hall (And.intro hk hil))
    have BR := hid hbel
    clear hbel
    have hcase : (decide ((i : Int) < (l.length : Int)) = false ∧ i = l.length) ∨ (i < l.length ∧ decide ((i : Int) < (l.length : Int)) = true ∧ decide ((i : Int) < 100) = false) ∨ (i < l.length ∧ decide ((i : Int) < (l.length : Int)) = true ∧ decide ((i : Int) < 100) = true) := by
      by_cases h1 : i < l.length
      · have e1 : decide ((i : Int) < (l.length : Int)) = true := by simp; omega
        by_cases h2 : i < 100
        · exact .inr (.inr ⟨h1, e1, by simp; omega⟩)
        · exact .inr (.inl ⟨h1, e1, by simp; omega⟩)
      · exact .inl ⟨by simp; omega, by omega⟩
    have hnb : (0 : Int) ≤ (n : Int) ∧ (n : Int) ≤ 20000000 := by omega
    rcases hcase with ⟨h1, h2⟩ | ⟨h1, h2, h3⟩ | ⟨h1, h2, h3⟩
    · have h9 : decide (i < l.length) = false := decide_eq_false (by omega)
      have hq : (decide ((l.length : Int) ≤ 100) = true ∧ l.length ≤ 100) ∨ decide ((l.length : Int) ≤ 100) = false := by
        by_cases h : l.length ≤ 100
        · exact .inl ⟨by simp; omega, h⟩
        · exact .inr (by simp; omega)
      have H2 := hid h2
      clear hall hk hil h2 hn
      rcases hq with ⟨hq, hq2⟩ | hq
      · have HQ := hid hq2
        clear hq2
        go_wp2_with fail
        go_ret
        refine ⟨_, rfl, BR.out, fun h => ⟨HQ.out, fun zs hz => ?_⟩⟩
        obtain ⟨j, hj⟩ := List.mem_iff_getElem?.1 hz
        have hjl := (List.getElem?_eq_some_iff.1 hj).1
        have := HA.out.1 j zs (by have := H2.out; omega) hj
        have h5 : (n : Int) ≤ 20000 := by simpa using h
        omega
      · go_wp2_with fail
        go_ret
        exact ⟨_, rfl, BR.out, fun h => by simp at h⟩
    · have h9 : decide (i < l.length) = true := decide_eq_true h1
      have hq : decide ((l.length : Int) ≤ 100) = false := by
        have : i = 100 := by simp only [decide_eq_false_iff_not] at h3; omega
        simp; omega
      clear hall hk hil hn
      go_wp2_with fail
      go_ret
      exact ⟨_, rfl, BR.out, fun h => by simp at h⟩
    · have h9 : decide (i < l.length) = true := decide_eq_true h1
      obtain ⟨s, hz⟩ : ∃ s, l[i]? = some s := ⟨l[i], List.getElem?_eq_getElem h1⟩
      obtain ⟨b4, o4, lv, v0, v1, v2, v3, m0, m1, m2, m3, l0, l1, l2, l3, rfl, _, hs, hcell⟩ := square_at X.out.1 hz
      obtain ⟨⟨r0, r1⟩, ⟨r2, r3, r4, r5⟩, ⟨r6, r7, r8⟩, r9, r10, r11, r12⟩ := hcell wr BR.out
      obtain ⟨A1, c1, rfl, _⟩ := hs.nl.1.form
      obtain ⟨A2, c2, rfl, _⟩ := hs.n0.1.form
      obtain ⟨A3, c3, rfl, _⟩ := hs.n1.1.form
      obtain ⟨A4, c4, rfl, _⟩ := hs.n2.1.form
      obtain ⟨A5, c5, rfl, _⟩ := hs.n3.1.form
      have k0 : (0 : Int) ≤ (i : Int) := by omega
      have k1 : (i : Int) < (l.length : Int) := by omega
      have hi100 : i < 100 := by simp only [decide_eq_true_eq] at h3; omega
      have HZ := hid (And.intro hz (And.intro h1 (And.intro hn hs)))
      have hws := hs.weigh
      have h5 := (sum5 (n0 := s.large.length) (n1 := l0.length) (n2 := l1.length) (n3 := l2.length) (n4 := l3.length)).1
      have HS := hid (And.intro hws h5)
      obtain ⟨tot, ht⟩ : ∃ q : Nat, q = sumL [s.large.length, l0.length, l1.length, l2.length, l3.length] := ⟨_, rfl⟩
      have HW := hid (fun W => weighs_any s.kind s.mode m0 m1 m2 m3 s.x s.y A1 A2 A3 A4 A5 s.large.length l0.length l1.length l2.length l3.length c1 c2 c3 c4 c5 W hs.nl.2 hs.n0.2 hs.n1.2 hs.n2.2 hs.n3.2)
      have htb : (tot : Int) ≤ 100005 := by omega
      rw [← ht] at HW HS
      clear hall hk hil hz hn hs hcell ht hws h5
      go_wp2_with fail
      refine (HW.out _).mono ?_
      rintro e w4 ⟨rfl, hb4⟩
      have B4 := hid (BR.out.trans (hb4.mono BR.out.size))
      clear hb4
      go_wp2_with fail
      go_roundg (gk - 1)
      case measure => have := HA.out.2; omega
      case rel =>
        refine ⟨i + 1, n + tot, by have := HA.out.2; omega, by go_num, by go_num, by have := HZ.out.2.2.1; have := HS.out.2; omega, by have := HZ.out.2.1; omega, ?_, B4.out⟩
        intro j ys hj hy
        rcases Nat.lt_or_ge j i with h | h
        · have := HA.out.1 j ys h hy
          omega
        · obtain rfl : j = i := by omega
          rw [HZ.out.1] at hy
          injection hy with hy
          subst hy
          rw [HS.out.1]
          omega
end Go.Proofs.YtkkgpdejmcpcpaaDoor

