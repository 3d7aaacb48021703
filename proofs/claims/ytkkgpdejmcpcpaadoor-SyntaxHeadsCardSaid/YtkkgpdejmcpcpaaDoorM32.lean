/- Parts: XSHeadsW, XOpenLaid, XOpenByt, XOpenHead. -/
import Derived.Test.YtkkgpdejmcpcpaaDoorM29
import Derived.Test.YtkkgpdejmcpcpaaDoorM31
import Derived.Test.YtkkgpdejmcpcpaaDoorRows
import Derived.Test.YtkkgpdejmcpcpaaDoorM02
import Derived.ChangeSame
import Derived.ChangeVars
import Derived.JoinedOf
import Derived.RowKit
import Derived.RowKitTokens
import Derived.LaidLaws
import Derived.LaidHandle
import Derived.Stop.Joined
import Derived.ProofKit
import Derived.OpenShut
import Derived.ChangeOld
import Derived.Deep.Slices
import Derived.Deep.Fields
import Derived.ShutString
/- SyntaxHeads: the walk. -/
namespace Go.Proofs.YtkkgpdejmcpcpaaDoor
open Go.RowKit

theorem hpack_form {no k : Int} {bs : List UInt8} {w w' : World} {e : Ending} (h : HPackRes no k bs w e w') : ∃ A c, e = .returned (.tuple #[.agg #[.int .i64 (if no = 0 then k else 0), .slice A (if no = 0 then bs else []).length c], codeV no]) ∧ Byt w' (.slice A (if no = 0 then bs else []).length c) (if no = 0 then bs else []) ∧ Below w.heap.size w w' := by
  obtain ⟨v, h1, h2, h3⟩ := h
  obtain ⟨A, c, rfl, _⟩ := h2.form
  exact ⟨A, c, h1, h2, h3⟩
theorem rpack_form {no k : Int} {bs : List UInt8} {w w' : World} {e : Ending} (h : RPackRes no k bs w e w') : ∃ A c, e = .returned (.tuple #[.agg #[.int .i64 (if no = 0 then k else 0), .slice A (if no = 0 then bs else []).length c], .agg #[.int .i64 no, .slice none 0 0]]) ∧ Byt w' (.slice A (if no = 0 then bs else []).length c) (if no = 0 then bs else []) ∧ Below w.heap.size w w' := by
  obtain ⟨v, h1, h2, h3⟩ := h
  obtain ⟨A, c, rfl, _⟩ := h2.form
  exact ⟨A, c, h1, h2, h3⟩
theorem hread_form {no k q : Int} {bs : List UInt8} {w w' : World} {e : Ending} (h : HReadRes no k q bs w e w') : ∃ A c, e = .returned (.tuple #[.agg #[.int .i64 (if no = 0 then k else 0), .int .i64 (if no = 0 then q else 0), .slice A (if no = 0 then bs else []).length c], codeV no]) ∧ Byt w' (.slice A (if no = 0 then bs else []).length c) (if no = 0 then bs else []) ∧ Below w.heap.size w w' := by
  obtain ⟨v, h1, h2, h3⟩ := h
  obtain ⟨A, c, rfl, _⟩ := h2.form
  exact ⟨A, c, h1, h2, h3⟩
theorem rread_form {no k q : Int} {bs : List UInt8} {w w' : World} {e : Ending} (h : RReadRes no k q bs w e w') : ∃ A c, e = .returned (.tuple #[.agg #[.int .i64 (if no = 0 then k else 0), .int .i64 (if no = 0 then q else 0), .slice A (if no = 0 then bs else []).length c], .agg #[.int .i64 no, .slice none 0 0]]) ∧ Byt w' (.slice A (if no = 0 then bs else []).length c) (if no = 0 then bs else []) ∧ Below w.heap.size w w' := by
  obtain ⟨v, h1, h2, h3⟩ := h
  obtain ⟨A, c, rfl, _⟩ := h2.form
  exact ⟨A, c, h1, h2, h3⟩
/-- What the law holds of the copy, and of the two packed. -/
structure PK (w : World) (k q : Int) (x : Value) (bs : List UInt8) (kc : Int) (xc : Value) (bc : List UInt8) (vi : Value) (g6 g8 : Nat) (ka : Int) (va vb : Value) (da : List UInt8) (no : Int) (W : World) : Prop where
  h : HC w k q x bs kc xc bc W
  yi : Byt W vi bs
  p6 : Blk W g6 26 #[.int .i64 ka, va]
  ya : Byt W va da
  p8 : Blk W g8 26 #[.int .i64 ka, vb]
  p9 : Blk W (g8 + 1) 36 #[.int .i64 no, .slice none 0 0]
  yb : Byt W vb da
/-- .. of the two read. -/
structure RK (g10 g12 : Nat) (kx qx : Int) (vx vy : Value) (dx : List UInt8) (no : Int) (W : World) : Prop where
  p10 : Blk W g10 24 #[.int .i64 kx, .int .i64 qx, vx]
  p12 : Blk W g12 39 #[.int .i64 kx, .int .i64 qx, vy]
  p13 : Blk W (g12 + 1) 36 #[.int .i64 no, .slice none 0 0]
  yx : Byt W vx dx
  yy : Byt W vy dx
section
variable {w W W' : World} {k q : Int} {x : Value} {bs : List UInt8} {kc : Int} {xc : Value} {bc : List UInt8} {vi : Value} {g6 g8 g10 g12 : Nat} {ka kx qx : Int} {va vb vx vy : Value} {da dx : List UInt8} {no no2 : Int}
theorem PK.below (h : PK w k q x bs kc xc bc vi g6 g8 ka va vb da no W) (hb : Below W.heap.size W W') : PK w k q x bs kc xc bc vi g6 g8 ka va vb da no W' :=
  ⟨h.h.below hb, h.yi.below hb, h.p6.below hb h.p6.lt, h.ya.below hb, h.p8.below hb h.p8.lt, h.p9.below hb h.p9.lt, h.yb.below hb⟩
theorem RK.below (h : RK g10 g12 kx qx vx vy dx no W) (hb : Below W.heap.size W W') : RK g10 g12 kx qx vx vy dx no W' :=
  ⟨h.p10.below hb h.p10.lt, h.p12.below hb h.p12.lt, h.p13.below hb h.p13.lt, h.yx.below hb, h.yy.below hb⟩
theorem pk_cells (h : PK w k q x bs kc xc bc vi g6 g8 ka va vb da no W) (r : RK g10 g12 kx qx vx vy dx no2 W) : W.cell? ⟨g6, 0, none⟩ = some (.int .i64 ka) ∧ W.cell? ⟨g6, 1, none⟩ = some (va) ∧ W.cell? ⟨g8, 0, none⟩ = some (.int .i64 ka) ∧ W.cell? ⟨g8, 1, none⟩ = some (vb) ∧ W.cell? ⟨g8 + 1, 0, none⟩ = some (.int .i64 no) ∧ W.cell? ⟨g8 + 1, 1, none⟩ = some (.slice none 0 0) ∧ W.cell? ⟨g10, 0, none⟩ = some (.int .i64 kx) ∧ W.cell? ⟨g10, 1, none⟩ = some (.int .i64 qx) ∧ W.cell? ⟨g10, 2, none⟩ = some (vx) ∧ W.cell? ⟨g12, 0, none⟩ = some (.int .i64 kx) ∧ W.cell? ⟨g12, 1, none⟩ = some (.int .i64 qx) ∧ W.cell? ⟨g12, 2, none⟩ = some (vy) ∧ W.cell? ⟨g12 + 1, 0, none⟩ = some (.int .i64 no2) ∧ W.cell? ⟨g12 + 1, 1, none⟩ = some (.slice none 0 0) ∧ W.cell? ⟨w.heap.size + 1, 0, none⟩ = some (.int .i64 kc) ∧ W.cell? ⟨w.heap.size + 1, 1, none⟩ = some (xc) ∧ W.cell? ⟨w.heap.size, 2, none⟩ = some (x) :=
  ⟨(h.p6.cell 0).trans rfl, (h.p6.cell 1).trans rfl, (h.p8.cell 0).trans rfl, (h.p8.cell 1).trans rfl, (h.p9.cell 0).trans rfl, (h.p9.cell 1).trans rfl, (r.p10.cell 0).trans rfl, (r.p10.cell 1).trans rfl, (r.p10.cell 2).trans rfl, (r.p12.cell 0).trans rfl, (r.p12.cell 1).trans rfl, (r.p12.cell 2).trans rfl, (r.p13.cell 0).trans rfl, (r.p13.cell 1).trans rfl, h.h.cells.2.1, h.h.cells.2.2, h.h.cells.1.2.2⟩
end
set_option maxRecDepth 100000 in
set_option maxHeartbeats 8000000 in
theorem sheads_walk (k q : Int) (x : Value) (bs : List UInt8) (kc : Int) (xc : Value) (bc : List UInt8) (w : World) (hx : Byt w x bs) (_ : bs.length ≤ maxLen) (hc : Byt w xc bc) (_ : bc.length ≤ maxLen) (hg : ErrT w) :
    Calls Tryd.prog 3 #[.agg #[.int .i64 k, .int .i64 q, x], .agg #[.int .i64 kc, xc]] w fun e w' => e = .returned (.bool true) ∧ Below w.heap.size w w' := by
  obtain ⟨A, c, rfl, _⟩ := hx.form
  obtain ⟨A2, c2, rfl, _⟩ := hc.form
  have HG := hid (And.intro hg hg.lt)
  have hb2 : Below w.heap.size w ((w.alloc (.cells #[.int .i64 k, .int .i64 q, .slice A bs.length c] 24)).alloc (.cells #[.int .i64 kc, .slice A2 bc.length c2] 26)) := ((Below.refl _ _).alloc (Nat.le_refl _) _).alloc (by simp) _
  have H0 := hid (show HC w k q (.slice A bs.length c) bs kc (.slice A2 bc.length c2) bc ((w.alloc (.cells #[.int .i64 k, .int .i64 q, .slice A bs.length c] 24)).alloc (.cells #[.int .i64 kc, .slice A2 bc.length c2] 26)) from
    ⟨hb2, (Blk.new _ _ _).alloc _, Blk.newAt' _ _ _ (by simp), hx.below hb2, hc.below hb2⟩)
  clear hb2 hx hc hg
  have hbig : (decide ((70000 : Int) < (bs.length : Int)) = true ∧ decide (70000 < bs.length) = true) ∨ (decide ((70000 : Int) < (bs.length : Int)) = false ∧ decide (70000 < bs.length) = false ∧ ((decide ((70000 : Int) < (bc.length : Int)) = true ∧ decide (70000 < bc.length) = true) ∨ (decide ((70000 : Int) < (bc.length : Int)) = false ∧ decide (70000 < bc.length) = false ∧ bs.length ≤ 70000 ∧ bc.length ≤ 70000))) := by
    by_cases h1 : 70000 < bs.length
    · exact .inl ⟨by simp; omega, by simp; omega⟩
    · by_cases h2 : 70000 < bc.length
      · exact .inr ⟨by simp; omega, by simp; omega, .inl ⟨by simp; omega, by simp; omega⟩⟩
      · exact .inr ⟨by simp; omega, by simp; omega, .inr ⟨by simp; omega, by simp; omega, by omega, by omega⟩⟩
  rcases hbig with ⟨d1, d2⟩ | ⟨d1, d2, ⟨d3, d4⟩ | ⟨d3, d4, hl1, hl2⟩⟩
  · go_enter Tryd.func3, Tryd.ntmps3
    go_wp2_with fail
    generalize ((w.alloc _).alloc _ : World) = w1 at *
    refine (first20 _ (by exact HG.out.1.below H0.out.bel HG.out.2)).mono ?_
    rintro e w2 ⟨rfl, hb⟩
    have H1 := hid (H0.out.below hb)
    obtain ⟨⟨c0, c1, cc⟩, c3, c4⟩ := H1.out.cells
    clear hb
    go_wp2_with fail
    refine (first20 _ (by exact HG.out.1.below H1.out.bel HG.out.2)).mono ?_
    rintro e w3 ⟨rfl, hb⟩
    have H2 := hid (H1.out.below hb)
    clear hb c0 c1 cc c3 c4
    go_wp2_with fail
    go_ret
    exact ⟨rfl, H2.out.bel⟩
  · go_enter Tryd.func3, Tryd.ntmps3
    go_wp2_with fail
    generalize ((w.alloc _).alloc _ : World) = w1 at *
    refine (first20 _ (by exact HG.out.1.below H0.out.bel HG.out.2)).mono ?_
    rintro e w2 ⟨rfl, hb⟩
    have H1 := hid (H0.out.below hb)
    obtain ⟨⟨c0, c1, cc⟩, c3, c4⟩ := H1.out.cells
    clear hb
    go_wp2_with fail
    refine (first20 _ (by exact HG.out.1.below H1.out.bel HG.out.2)).mono ?_
    rintro e w3 ⟨rfl, hb⟩
    have H2 := hid (H1.out.below hb)
    clear hb c0 c1 cc c3 c4
    go_wp2_with fail
    go_ret
    exact ⟨rfl, H2.out.bel⟩
  · go_enter Tryd.func3, Tryd.ntmps3
    go_wp2_with fail
    generalize ((w.alloc _).alloc _ : World) = w1 at *
    refine (first20 _ (by exact HG.out.1.below H0.out.bel HG.out.2)).mono ?_
    rintro e w2 ⟨rfl, hb⟩
    have H1 := hid (H0.out.below hb)
    obtain ⟨⟨c0, c1, cc⟩, c3, c4⟩ := H1.out.cells
    clear hb
    go_wp2_with fail
    refine (copy_bytes _ bs _ (by exact H1.out.y2.from_) (by omega)).mono ?_
    rintro e w3 ⟨gi, ci, rfl, howni, hb⟩
    have H3 := hid (And.intro (H1.out.below hb) (Byt.of_own howni rfl))
    clear hb howni c0 c1 cc c3 c4
    obtain ⟨⟨c0, c1, cc⟩, c3, c4⟩ := H3.out.1.cells
    go_wp2_with fail
    clear c0 c1 cc c3 c4
    refine (pack_any k q _ bs _ (by exact H3.out.2) (by omega)).mono ?_
    rintro e w4 hres
    obtain ⟨A4, c4', rfl, hy4, hb⟩ := hpack_form hres
    have hrp := fun W (h : Byt W (.slice A bs.length c) bs) => rpack_head k q (.slice A bs.length c) bs W h (by omega)
    have HRP := hid hrp
    clear hres hrp
    obtain ⟨no, hno⟩ : ∃ n, n = packNo k q bs.length := ⟨_, rfl⟩
    obtain ⟨ka, hka⟩ : ∃ n, n = (if no = 0 then k else 0) := ⟨_, rfl⟩
    obtain ⟨da, hda⟩ : ∃ n, n = (if no = 0 then packB k q bs else []) := ⟨_, rfl⟩
    rw [← hno] at hy4 HRP ⊢
    rw [← hda] at hy4
    rw [← hka, ← hda]
    have EQ1 := hid (And.intro hka hda)
    clear hno hka hda
    have H4 := hid (And.intro ((H3.out.1.below hb).alloc (.cells #[.int .i64 ka, .slice A4 da.length c4'] 26)) (And.intro ((H3.out.2.below hb).alloc (.cells #[.int .i64 ka, .slice A4 da.length c4'] 26)) (And.intro (Blk.new w4 26 #[.int .i64 ka, .slice A4 da.length c4']) (hy4.alloc (.cells #[.int .i64 ka, .slice A4 da.length c4'] 26)))))
    clear hb hy4
    obtain ⟨⟨c0, c1, cc⟩, c3, c4⟩ := H4.out.1.cells
    go_wp2_with fail
    clear c0 c1 cc c3 c4
    generalize w4.alloc (.cells #[.int .i64 ka, .slice A4 da.length c4'] 26) = w44 at *
    refine (HRP.out _ (by exact H4.out.1.y2)).mono ?_
    rintro e w5 hres
    obtain ⟨A5, c5', rfl, hy5, hb⟩ := rpack_form hres
    rw [← EQ1.out.2] at hy5
    rw [← EQ1.out.1, ← EQ1.out.2]
    have hb55 : Below w5.heap.size w5 ((w5.alloc (.cells #[.int .i64 ka, .slice A5 da.length c5'] 26)).alloc (.cells #[.int .i64 no, .slice none 0 0] 36)) := ((Below.refl _ _).alloc (Nat.le_refl _) _).alloc (by simp) _
    have H5 := hid (show PK w k q (.slice A bs.length c) bs kc (.slice A2 bc.length c2) bc (.slice (some ⟨gi, 0, none⟩) bs.length ci) w4.heap.size w5.heap.size ka (.slice A4 da.length c4') (.slice A5 da.length c5') da no ((w5.alloc (.cells #[.int .i64 ka, .slice A5 da.length c5'] 26)).alloc (.cells #[.int .i64 no, .slice none 0 0] 36)) from
      ⟨(H4.out.1.below hb).below hb55, (H4.out.2.1.below hb).below hb55, (H4.out.2.2.1.below hb H4.out.2.2.1.lt).below hb55 (by have := (H4.out.2.2.1.below hb H4.out.2.2.1.lt).lt; omega), (H4.out.2.2.2.below hb).below hb55, (Blk.new _ _ _).alloc _, Blk.newAt' _ _ _ (by simp), hy5.below hb55⟩)
    clear hres hb hy5 hb55 HRP EQ1
    obtain ⟨⟨c0, c1, cc⟩, c3, c4⟩ := H5.out.h.cells
    go_wp2_with fail
    clear c0 c1 cc c3 c4
    generalize ((w5.alloc _).alloc _ : World) = w55 at *
    refine (read_any kc _ bc _ (by exact H5.out.h.y3) (by omega)).mono ?_
    rintro e w6 hres
    obtain ⟨A6, c6', rfl, hy6, hb⟩ := hread_form hres
    have hrp := fun W (h : Byt W (.slice A2 bc.length c2) bc) => rread_head kc (.slice A2 bc.length c2) bc W h (by omega)
    have HRP := hid hrp
    clear hres hrp
    obtain ⟨no2, hno⟩ : ∃ n, n = readNo kc bc := ⟨_, rfl⟩
    obtain ⟨kx, hkx⟩ : ∃ n, n = (if no2 = 0 then kc else 0) := ⟨_, rfl⟩
    obtain ⟨qx, hqx⟩ : ∃ n, n = (if no2 = 0 then readQ kc bc else 0) := ⟨_, rfl⟩
    obtain ⟨dx, hdx⟩ : ∃ n, n = (if no2 = 0 then readB kc bc else []) := ⟨_, rfl⟩
    rw [← hno] at hy6 HRP ⊢
    rw [← hdx] at hy6
    rw [← hkx, ← hqx, ← hdx]
    have EQ2 := hid (And.intro hkx (And.intro hqx hdx))
    clear hno hkx hqx hdx
    have H6 := hid (And.intro (H5.out.below (hb.alloc hb.size (.cells #[.int .i64 kx, .int .i64 qx, .slice A6 dx.length c6'] 24))) (And.intro (Blk.new w6 24 #[.int .i64 kx, .int .i64 qx, .slice A6 dx.length c6']) (hy6.alloc (.cells #[.int .i64 kx, .int .i64 qx, .slice A6 dx.length c6'] 24))))
    clear hb hy6
    obtain ⟨⟨c0, c1, cc⟩, c3, c4⟩ := H6.out.1.h.cells
    go_wp2_with fail
    clear c0 c1 cc c3 c4
    generalize w6.alloc (.cells #[.int .i64 kx, .int .i64 qx, .slice A6 dx.length c6'] 24) = w66 at *
    refine (HRP.out _ (by exact H6.out.1.h.y3)).mono ?_
    rintro e w7 hres
    obtain ⟨A7, c7', rfl, hy7, hb⟩ := rread_form hres
    rw [← EQ2.out.2.2] at hy7
    rw [← EQ2.out.1, ← EQ2.out.2.1, ← EQ2.out.2.2]
    have hb77 : Below w7.heap.size w7 ((w7.alloc (.cells #[.int .i64 kx, .int .i64 qx, .slice A7 dx.length c7'] 39)).alloc (.cells #[.int .i64 no2, .slice none 0 0] 36)) := ((Below.refl _ _).alloc (Nat.le_refl _) _).alloc (by simp) _
    have H7 := hid (And.intro ((H6.out.1.below hb).below hb77) (show RK w6.heap.size w7.heap.size kx qx (.slice A6 dx.length c6') (.slice A7 dx.length c7') dx no2 ((w7.alloc (.cells #[.int .i64 kx, .int .i64 qx, .slice A7 dx.length c7'] 39)).alloc (.cells #[.int .i64 no2, .slice none 0 0] 36)) from
      ⟨(H6.out.2.1.below hb H6.out.2.1.lt).below hb77 (by have := (H6.out.2.1.below hb H6.out.2.1.lt).lt; omega), (Blk.new _ _ _).alloc _, Blk.newAt' _ _ _ (by simp), (H6.out.2.2.below hb).below hb77, hy7.below hb77⟩))
    clear hres hb hy7 hb77 HRP EQ2
    go_wp2_with fail
    generalize ((w7.alloc _).alloc _ : World) = w8 at *
    have T0 := hid (And.intro (H7.out.1.below (Below.refl w8.heap.size w8).drew) (H7.out.2.below (Below.refl w8.heap.size w8).drew))
    have K0 := hid (pk_cells H7.out.1 H7.out.2)
    have K0d := hid (pk_cells T0.out.1 T0.out.2)
    have hw8 : IntKind.i64.wrap (8 + (bc.length : Int)) = 8 + (bc.length : Int) := IntWalk.i64_in _ (by omega)
    have hcmp : (((bc.length : Int) + 8) == (8 + (bc.length : Int))) = true := by simp; omega
    go_region_held_law (fun W => W.cell? ⟨w4.heap.size, 0, none⟩ = some (.int .i64 ka) ∧ W.cell? ⟨w4.heap.size, 1, none⟩ = some (.slice A4 da.length c4') ∧ W.cell? ⟨w5.heap.size, 0, none⟩ = some (.int .i64 ka) ∧ W.cell? ⟨w5.heap.size, 1, none⟩ = some (.slice A5 da.length c5') ∧ W.cell? ⟨w5.heap.size + 1, 0, none⟩ = some (.int .i64 no) ∧ W.cell? ⟨w5.heap.size + 1, 1, none⟩ = some (.slice none 0 0) ∧ W.cell? ⟨w6.heap.size, 0, none⟩ = some (.int .i64 kx) ∧ W.cell? ⟨w6.heap.size, 1, none⟩ = some (.int .i64 qx) ∧ W.cell? ⟨w6.heap.size, 2, none⟩ = some (.slice A6 dx.length c6') ∧ W.cell? ⟨w7.heap.size, 0, none⟩ = some (.int .i64 kx) ∧ W.cell? ⟨w7.heap.size, 1, none⟩ = some (.int .i64 qx) ∧ W.cell? ⟨w7.heap.size, 2, none⟩ = some (.slice A7 dx.length c7') ∧ W.cell? ⟨w7.heap.size + 1, 0, none⟩ = some (.int .i64 no2) ∧ W.cell? ⟨w7.heap.size + 1, 1, none⟩ = some (.slice none 0 0) ∧ W.cell? ⟨w.heap.size + 1, 0, none⟩ = some (.int .i64 kc) ∧ W.cell? ⟨w.heap.size + 1, 1, none⟩ = some (.slice A2 bc.length c2) ∧ W.cell? ⟨w.heap.size, 2, none⟩ = some (.slice A bs.length c))
      (with_reducible first | exact K7.out | exact K6.out | exact K5.out | exact K4.out | exact K3.out | exact K2.out | exact K1.out | exact K0d.out | exact K0.out)
      (first
        | (go_at_call 15
           have hN := T6.out
           refine (bytes_same (bs := bs) (by exact hN.1.yi.from_) (by exact hN.1.h.y2.from_)).mono ?_
           rintro e w15 ⟨rfl, rfl⟩
           have T7 := hid hN
           have K7 := hid (pk_cells hN.1 hN.2)
           clear hN)
        | (go_at_call 16
           have hN := T5.out
           refine (cost_any kc _ bc _ (by exact hN.1.h.y3) (by omega)).mono ?_
           rintro e w14 ⟨rfl, hb⟩
           have T6 := hid (And.intro (hN.1.below hb) (hN.2.below hb))
           have K6 := hid (pk_cells T6.out.1 T6.out.2)
           clear hN hb)
        | (go_at_call 14
           have hN := T4.out
           refine (err_same no2 _ (by exact HG.out.1.below hN.1.h.bel HG.out.2)).mono ?_
           rintro e w13 ⟨rfl, hb⟩
           have T5 := hid (And.intro (hN.1.below hb) (hN.2.below hb))
           have K5 := hid (pk_cells T5.out.1 T5.out.2)
           clear hN hb)
        | (go_at_call 15
           have hN := T3.out
           refine (bytes_same (bs := dx) (by exact hN.2.yx.from_) (by exact hN.2.yy.from_)).mono ?_
           rintro e w12 ⟨rfl, rfl⟩
           have T4 := hid hN
           have K4 := hid (pk_cells hN.1 hN.2)
           clear hN)
        | (go_at_call 14
           have hN := T2.out
           refine (err_same no _ (by exact HG.out.1.below hN.1.h.bel HG.out.2)).mono ?_
           rintro e w11 ⟨rfl, hb⟩
           have T3 := hid (And.intro (hN.1.below hb) (hN.2.below hb))
           have K3 := hid (pk_cells T3.out.1 T3.out.2)
           clear hN hb)
        | (go_at_call 13
           have hN := T1.out
           refine (coded_same ka _ _ da _ (by exact hN.1.ya) (by exact hN.1.yb)).mono ?_
           rintro e w10 ⟨rfl, hb⟩
           have T2 := hid (And.intro (hN.1.below hb) (hN.2.below hb))
           have K2 := hid (pk_cells T2.out.1 T2.out.2)
           clear hN hb)
        | (go_at_call 7
           have hN := T0.out
           refine (first20 _ (by exact HG.out.1.below hN.1.h.bel HG.out.2)).mono ?_
           rintro e w9 ⟨rfl, hb⟩
           have T1 := hid (And.intro (hN.1.below hb) (hN.2.below hb))
           have K1 := hid (pk_cells T1.out.1 T1.out.2)
           clear hN hb)
        | fail)
    go_wp2_with fail
    go_ret
    exact ⟨rfl, T7.out.1.h.bel⟩
end Go.Proofs.YtkkgpdejmcpcpaaDoor

/- What the rows lay of package errors. -/
namespace Go.Proofs.YtkkgpdejmcpcpaaDoor
open Go.ChangeShapes Go.WideShapes Go.ChangeAt Go.RowKit Go.Deep

/-! ### What the rows lay -/
def laidHere : List (String × DataW Unit) := [("errors.errorType", Rows.laid_errors_errorType)]
theorem ownH : ownKnob Tryd.prog.godebug = none := by kernel_rfl
theorem laidOutH : laidOutB Tryd.prog = true := by kernel_rfl
theorem etH : Tryd.prog.globalNamed "errors.errorType" = some 0 := by kernel_rfl
theorem rtH : (Tryd.prog.cutTypes.find? (·.1 == "internal/reflectlite.rtype")).map (·.2) = some 146 := by kernel_rfl
theorem oneRowH : ((List.range Tryd.prog.types.size).filter fun t => Tryd.prog.rowNamed t [101, 114, 114, 111, 114]) = [30] := by kernel_rfl
theorem errT_of_laid {W : World} (h : laidMetH Tryd.prog laidHere W) : ErrT W := by
  have h' : laidMet Tryd.prog [] W ∧ handlesMet Tryd.prog laidHere W := h
  obtain ⟨name, u, ty, e1, e2, e3, e4, e5⟩ := h'.2 _ (List.mem_singleton.2 rfl)
  have en : name = [101, 114, 114, 111, 114] := (Option.some.inj e1).symm
  subst en
  obtain rfl := Option.some.inj (rtH.symm.trans e2)
  have hm : ty ∈ (List.range Tryd.prog.types.size).filter fun t => Tryd.prog.rowNamed t [101, 114, 114, 111, 114] := List.mem_filter.2 ⟨List.mem_range.2 e3, e4⟩
  rw [oneRowH] at hm
  obtain rfl := List.mem_singleton.1 hm
  have hh : typeHandle Tryd.prog 30 = .pointer (some ⟨1, 30, none⟩) := by kernel_rfl
  rw [hh] at e5
  have := World.var?_cell etH e5 0
  unfold ErrT
  simpa using this
/-- A world that meets the condition. -/
noncomputable def laidWorld (os : Os) : World :=
  let w0 := World.holding Tryd.prog os ⟨#[], #[], []⟩
  { w0 with heap := w0.heap.modify 0 fun
      | .cells _ t frozen => .cells #[.iface 146 (.agg #[.pointer (some ⟨1, 30, none⟩)])] t frozen
      | o => o }
theorem laidWorld_met (os : Os) (args : Array Value) : laidMetH Tryd.prog laidHere ((laidWorld os).forCall (fun _ _ => 0) ⟨#[], args, []⟩).memory :=
  laidMetH_of_parts (laidMet_nil _ _) (by kernel_rfl)
end Go.Proofs.YtkkgpdejmcpcpaaDoor

/- Arguments opened: bytes, with their capacity. -/
namespace Go.Proofs.YtkkgpdejmcpcpaaDoor
open Go.ChangeShapes Go.WideShapes Go.ChangeAt Go.RowKit Go.Deep

theorem byte_of_wf {z : Int} (h : (Lit.int .u8 z).wf = true) : byteV (UInt8.ofNat z.toNat) = .int .u8 z := by
  have hb : 0 ≤ z ∧ z < 256 := by
    have := bounds_u8 h
    omega
  unfold byteV
  congr 1
  simp
  omega
section
variable {H : Type} {enc : TypeId × Value → H} {w : World} {base : Nat} {spare : Nat → Bool} {held : Bool}
theorem open_byt {A : Option Addr} {len cap : Nat} {d : DataW H} {p : List MemPlace} (h : DataW.Trod enc Tryd.prog w base spare held 22 (.slice A len cap) d p) :
    ∃ bs : List UInt8, bs.length = len ∧ Byt w (.slice A len cap) bs ∧ bs.length ≤ maxLen := by
  obtain ⟨fuel, hf⟩ := h
  rcases open_ints Tryd.underlying22 Tryd.underlying5 (by kernel_rfl) hf with ⟨hcs, _⟩ | ⟨x, l, c, zs, hcs, _, hl, hm, hz, _, hcell, hwz⟩
  · simp [Value.cells] at hcs
    obtain ⟨rfl, rfl, rfl⟩ := hcs
    exact ⟨[], rfl, ⟨none, 0, rfl, Nat.le_refl _, fun h => absurd rfl h⟩, Nat.zero_le _⟩
  · simp [Value.cells] at hcs
    obtain ⟨rfl, rfl, rfl⟩ := hcs
    have hlz : len ≤ zs.length := by rw [hz]; split <;> omega
    have hbl : ((zs.take len).map fun z => UInt8.ofNat z.toNat).length = len := by simp; omega
    refine ⟨(zs.take len).map fun z => UInt8.ofNat z.toNat, hbl, ⟨some x, cap, by rw [hbl], by rw [hbl]; omega, fun hne => ?_⟩, by rw [hbl]; omega⟩
    have hpos : 0 < len := by
      rcases Nat.eq_zero_or_pos len with h0 | h0
      · exact absurd (List.eq_nil_of_length_eq_zero (by rw [hbl]; exact h0)) hne
      · exact h0
    have h0 := hcell 0 (by omega)
    obtain ⟨b, off, spot⟩ := x
    have hspot : spot = none := by
      simp [Addr.add] at h0
      exact World.cell?_spot h0
    subst hspot
    refine ⟨b, off, rfl, ?_, fun j u hu => ?_⟩
    · rw [addr_add] at h0
      exact World.block_lt_of_cell? _ _ h0
    · have hj : j < len := by
        have := (List.getElem?_eq_some_iff.1 hu).1
        simp at this
        omega
      have hmem : zs.getD j 0 ∈ zs := by
        rw [List.getD_eq_getElem?_getD, List.getElem?_eq_getElem (by omega)]
        exact List.getElem_mem _
      have hc := hcell j (by omega)
      rw [addr_add] at hc
      rw [hc, ← byte_of_wf (hwz _ hmem)]
      have e : ((zs.take len).map fun z => UInt8.ofNat z.toNat)[j]? = some (UInt8.ofNat (zs.getD j 0).toNat) := by
        simp [List.getD, hj, show j < zs.length by omega]
      rw [e] at hu
      injection hu with hu
      rw [hu]
      rfl
end
end Go.Proofs.YtkkgpdejmcpcpaaDoor

/- Arguments opened: a head, a coded frame. -/
namespace Go.Proofs.YtkkgpdejmcpcpaaDoor
open Go.ChangeShapes Go.WideShapes Go.ChangeAt Go.RowKit Go.Deep

section
variable {H : Type} {enc : TypeId × Value → H} {w : World} {base : Nat} {spare : Nat → Bool} {held : Bool}
set_option maxRecDepth 100000 in
theorem open_head {r : Reach} {b0 : Nat} {v : Value} {d : DataW H} {p : List MemPlace} (hw : Value.okWide Tryd.prog w r b0 24 v) (h : DataW.Trod enc Tryd.prog w base spare held 24 v d p) :
    ∃ (k q : Int) (x : Value) (bs : List UInt8), v = .agg #[.int .i64 k, .int .i64 q, x] ∧ Byt w x bs ∧ bs.length ≤ maxLen := by
  obtain ⟨cs, rfl, hs⟩ := okWide_struct Tryd.underlying24 hw
  have h5 : Tryd.prog.cellsOf 24 = 3 := by kernel_rfl
  obtain ⟨fuel, hf⟩ := h
  have hcl : cs.toList.length = 3 := by simp; omega
  rw [show (Value.agg cs).cells.toList = cs.toList from rfl] at hf
  obtain ⟨ys, n', _, _, _, hyl, hfd⟩ := DataW.trod_struct Tryd.underlying24 hf
  have c3 : Tryd.prog.cellsOf 3 = 1 := by kernel_rfl
  have c4 : Tryd.prog.cellsOf 22 = 1 := by kernel_rfl
  obtain ⟨l, hl⟩ : ∃ l, l = cs.toList := ⟨_, rfl⟩
  have hcs : cs = l.toArray := by rw [hl]
  rw [← hl] at hcl hfd
  clear hf hs hw hl
  match l, hcl with
  | [v0, v1, v2], _ =>
    match ys, hyl with
    | [y0, y1, y2], _ =>
      have g0 := hfd 0 _ rfl
      have g1 := hfd 1 _ rfl
      have g2 := hfd 2 _ rfl
      simp [c3, c4] at g0 g1 g2
      obtain ⟨z0, e0, _, _⟩ := DataW.trod_int Tryd.underlying3 g0
      obtain ⟨z1, e1, _, _⟩ := DataW.trod_int Tryd.underlying3 g1
      simp at e0 e1
      subst e0 e1
      have hv : ∃ A len cap, v2 = .slice A len cap := by
        rcases open_slice Tryd.underlying22 g2 with ⟨h1, _⟩ | ⟨a, l, c, _, _, _, _, h1, _⟩
        · injection h1 with h1; exact ⟨_, _, _, h1⟩
        · injection h1 with h1; exact ⟨_, _, _, h1⟩
      obtain ⟨A', len', cap', rfl⟩ := hv
      obtain ⟨bs, h1, h2, h3⟩ := open_byt (d := y2.1) (p := y2.2) ⟨n', by simpa [Value.cells] using g2⟩
      subst h1
      exact ⟨z0, z1, _, bs, by rw [hcs], h2, h3⟩
set_option maxRecDepth 100000 in
theorem open_coded {r : Reach} {b0 : Nat} {v : Value} {d : DataW H} {p : List MemPlace} (hw : Value.okWide Tryd.prog w r b0 26 v) (h : DataW.Trod enc Tryd.prog w base spare held 26 v d p) :
    ∃ (k : Int) (x : Value) (bs : List UInt8), v = .agg #[.int .i64 k, x] ∧ Byt w x bs ∧ bs.length ≤ maxLen := by
  obtain ⟨cs, rfl, hs⟩ := okWide_struct Tryd.underlying26 hw
  have h5 : Tryd.prog.cellsOf 26 = 2 := by kernel_rfl
  obtain ⟨fuel, hf⟩ := h
  have hcl : cs.toList.length = 2 := by simp; omega
  rw [show (Value.agg cs).cells.toList = cs.toList from rfl] at hf
  obtain ⟨ys, n', _, _, _, hyl, hfd⟩ := DataW.trod_struct Tryd.underlying26 hf
  have c3 : Tryd.prog.cellsOf 3 = 1 := by kernel_rfl
  have c4 : Tryd.prog.cellsOf 22 = 1 := by kernel_rfl
  obtain ⟨l, hl⟩ : ∃ l, l = cs.toList := ⟨_, rfl⟩
  have hcs : cs = l.toArray := by rw [hl]
  rw [← hl] at hcl hfd
  clear hf hs hw hl
  match l, hcl with
  | [v0, v1], _ =>
    match ys, hyl with
    | [y0, y1], _ =>
      have g0 := hfd 0 _ rfl
      have g1 := hfd 1 _ rfl
      simp [c3, c4] at g0 g1
      obtain ⟨z0, e0, _, _⟩ := DataW.trod_int Tryd.underlying3 g0
      simp at e0
      subst e0
      have hv : ∃ A len cap, v1 = .slice A len cap := by
        rcases open_slice Tryd.underlying22 g1 with ⟨h1, _⟩ | ⟨a, l, c, _, _, _, _, h1, _⟩
        · injection h1 with h1; exact ⟨_, _, _, h1⟩
        · injection h1 with h1; exact ⟨_, _, _, h1⟩
      obtain ⟨A', len', cap', rfl⟩ := hv
      obtain ⟨bs, h1, h2, h3⟩ := open_byt (d := y1.1) (p := y1.2) ⟨n', by simpa [Value.cells] using g1⟩
      subst h1
      exact ⟨z0, _, bs, by rw [hcs], h2, h3⟩
end
end Go.Proofs.YtkkgpdejmcpcpaaDoor

