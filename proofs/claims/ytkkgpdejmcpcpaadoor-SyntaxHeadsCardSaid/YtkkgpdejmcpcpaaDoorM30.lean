/- Parts: XHeadC. -/
import Derived.Test.YtkkgpdejmcpcpaaDoorM27
/- Chapter 20: the document's Pack. -/
namespace Go.Proofs.YtkkgpdejmcpcpaaDoor
open Go.RowKit

theorem blk2H {W : World} {g : Nat} {t : TypeId} {a0 a1 : Value} (h : Blk W g t #[a0, a1]) : W.cell? ⟨g, 0, none⟩ = some a0 ∧ W.cell? ⟨g, 1, none⟩ = some a1 := ⟨(h.cell 0).trans rfl, (h.cell 1).trans rfl⟩
/-- What the document's Pack answers. -/
def RPackRes (no k : Int) (bs : List UInt8) (w : World) (e : Ending) (w' : World) : Prop :=
  ∃ v, e = .returned (.tuple #[.agg #[.int .i64 (if no = 0 then k else 0), v], .agg #[.int .i64 no, .slice none 0 0]]) ∧ Byt w' v (if no = 0 then bs else []) ∧ Below w.heap.size w w'
theorem RPackRes.bad {no k : Int} {bs : List UInt8} {w w' : World} {e : Ending} (h : no ≠ 0) (he : e = .returned (.tuple #[.agg #[.int .i64 0, .slice none 0 0], .agg #[.int .i64 no, .slice none 0 0]])) (hb : Below w.heap.size w w') : RPackRes no k bs w e w' :=
  ⟨.slice none 0 0, by rw [he, if_neg h], by rw [if_neg h]; exact byt_nil _, hb⟩
theorem RPackRes.good {k : Int} {bs : List UInt8} {w w' : World} {e : Ending} {v : Value} (he : e = .returned (.tuple #[.agg #[.int .i64 k, v], .agg #[.int .i64 0, .slice none 0 0]])) (hv : Byt w' v bs) (hb : Below w.heap.size w w') : RPackRes 0 k bs w e w' :=
  ⟨v, by rw [he, if_pos rfl], by rw [if_pos rfl]; exact hv, hb⟩
theorem two_put {W : World} {g1 g2 : Nat} {t1 t2 : TypeId} {a0 a1 b0 b1 : Value} (h1 : Blk W g1 t1 #[a0, a1]) (h2 : Blk W g2 t2 #[b0, b1]) (hne : g1 ≠ g2) (x0 x1 y0 y1 : Value) :
    (((((W.setCell ⟨g1, 0, none⟩ x0).setCell ⟨g1, 1, none⟩ x1).setCell ⟨g2, 0, none⟩ y0).setCell ⟨g2, 1, none⟩ y1).cell? ⟨g1, 0, none⟩ = some x0 ∧ ((((W.setCell ⟨g1, 0, none⟩ x0).setCell ⟨g1, 1, none⟩ x1).setCell ⟨g2, 0, none⟩ y0).setCell ⟨g2, 1, none⟩ y1).cell? ⟨g1, 1, none⟩ = some x1) ∧
    ((((W.setCell ⟨g1, 0, none⟩ x0).setCell ⟨g1, 1, none⟩ x1).setCell ⟨g2, 0, none⟩ y0).setCell ⟨g2, 1, none⟩ y1).cell? ⟨g2, 0, none⟩ = some y0 ∧ ((((W.setCell ⟨g1, 0, none⟩ x0).setCell ⟨g1, 1, none⟩ x1).setCell ⟨g2, 0, none⟩ y0).setCell ⟨g2, 1, none⟩ y1).cell? ⟨g2, 1, none⟩ = some y1 := by
  have k1 := (((h1.put 0 x0).put 1 x1).far (p := ⟨g2, 0, none⟩) hne y0).far (p := ⟨g2, 1, none⟩) hne y1
  have k2 := (((h2.far (p := ⟨g1, 0, none⟩) (Ne.symm hne) x0).far (p := ⟨g1, 1, none⟩) (Ne.symm hne) x1).put 0 y0).put 1 y1
  exact ⟨⟨(k1.cell 0).trans rfl, (k1.cell 1).trans rfl⟩, (k2.cell 0).trans rfl, (k2.cell 1).trans rfl⟩
theorem two_below {w W : World} {g1 g2 : Nat} (h : Below w.heap.size w W) (l1 : w.heap.size ≤ g1) (l2 : w.heap.size ≤ g2) (x0 x1 y0 y1 : Value) : Below w.heap.size w ((((W.setCell ⟨g1, 0, none⟩ x0).setCell ⟨g1, 1, none⟩ x1).setCell ⟨g2, 0, none⟩ y0).setCell ⟨g2, 1, none⟩ y1) :=
  (((h.setCell (p := ⟨g1, 0, none⟩) l1 _).setCell (p := ⟨g1, 1, none⟩) l1 _).setCell (p := ⟨g2, 0, none⟩) l2 _).setCell (p := ⟨g2, 1, none⟩) l2 _
set_option maxRecDepth 100000 in
set_option maxHeartbeats 8000000 in
theorem rpack_head (k q : Int) (x : Value) (bs : List UInt8) (w : World) (hx : Byt w x bs) (hl : bs.length ≤ 140737488355328) :
    Calls Tryd.prog 10 #[.agg #[.int .i64 k, .int .i64 q, x]] w (RPackRes (packNo k q bs.length) k (packB k q bs) w) := by
  obtain ⟨i0, hi0, hz0, hz1, hz2⟩ := info_parts info_u8
  have IP := hid (And.intro hi0 (And.intro hz0 (And.intro hz1 hz2)))
  clear hi0 hz0 hz1 hz2
  obtain ⟨A, c, rfl, hc⟩ := hx.form
  have X := hid hx
  clear hx
  have PN := hid (show packNo k q bs.length = if k < 1 ∨ 4 < k then 13 else if q < 0 ∨ 15 < q then 3 else if 2 < k ∧ (q ≠ 0 ∨ 0 < bs.length) then 2 else if 65536 ≤ bs.length then 5 else 0 from rfl)
  generalize packNo k q bs.length = no at *
  have hbel : Below w.heap.size w (((w.alloc (.cells #[.int .i64 k, .int .i64 q, .slice A bs.length c] 39)).alloc (.cells #[.int .i64 0, .slice none 0 0] 26)).alloc (.cells #[.int .i64 0, .slice none 0 0] 36)) := (((Below.refl _ _).alloc (Nat.le_refl _) _).alloc (by simp) _).alloc (by simp; omega) _
  have hsz : (((w.alloc (.cells #[.int .i64 k, .int .i64 q, .slice A bs.length c] 39)).alloc (.cells #[.int .i64 0, .slice none 0 0] 26)).alloc (.cells #[.int .i64 0, .slice none 0 0] 36)).heap.size = w.heap.size + 3 := by simp
  have W3 := hid (And.intro hbel (And.intro (show Blk (((w.alloc (.cells #[.int .i64 k, .int .i64 q, .slice A bs.length c] 39)).alloc (.cells #[.int .i64 0, .slice none 0 0] 26)).alloc (.cells #[.int .i64 0, .slice none 0 0] 36)) w.heap.size 39 #[.int .i64 k, .int .i64 q, .slice A bs.length c] from ((Blk.new _ _ _).alloc _).alloc _) (And.intro (show Blk (((w.alloc (.cells #[.int .i64 k, .int .i64 q, .slice A bs.length c] 39)).alloc (.cells #[.int .i64 0, .slice none 0 0] 26)).alloc (.cells #[.int .i64 0, .slice none 0 0] 36)) (w.heap.size + 1) 26 #[.int .i64 0, .slice none 0 0] from (Blk.newAt' _ _ _ (by simp)).alloc _) (And.intro (show Blk (((w.alloc (.cells #[.int .i64 k, .int .i64 q, .slice A bs.length c] 39)).alloc (.cells #[.int .i64 0, .slice none 0 0] 26)).alloc (.cells #[.int .i64 0, .slice none 0 0] 36)) (w.heap.size + 2) 36 #[.int .i64 0, .slice none 0 0] from Blk.newAt' _ _ _ (by simp)) hsz))))
  clear hbel hsz
  by_cases h1 : k < 1
  · have N := hid (show no = 13 by rw [PN.out, if_pos (.inl h1)])
    have d1 : decide (k < 1) = true := by simpa using h1
    clear PN h1
    go_enter Tryd.func10, Tryd.ntmps10
    go_wp2_with fail
    generalize (((w.alloc _).alloc _).alloc _ : World) = w1 at *
    refine (fail_any 13 _).mono ?_
    rintro e w3 ⟨rfl, hb3⟩
    have h2 := W3.out.2.2.1.below hb3 W3.out.2.2.1.lt
    have h3 := W3.out.2.2.2.1.below hb3 W3.out.2.2.2.1.lt
    have hb := W3.out.1.trans (hb3.mono W3.out.1.size)
    obtain ⟨u0, u1⟩ := blk2H h2
    obtain ⟨u2, u3⟩ := blk2H h3
    have uf0 := h2.frozen 0
    have uf1 := h2.frozen 1
    have uf2 := h3.frozen 0
    have uf3 := h3.frozen 1
    obtain ⟨⟨z0, z1⟩, z2, z3⟩ := two_put h2 h3 (by omega) (.int .i64 0) (.slice none 0 0) (.int .i64 13) (.slice none 0 0)
    have V := hid hb
    clear hb hb3 h2 h3
    go_wp2_with fail
    rw [N.out]
    exact bodyPost_ret (v := .tuple #[.agg #[.int .i64 0, .slice none 0 0], .agg #[.int .i64 13, .slice none 0 0]]) (by simp [results, Tryd.results10, go_sem, z0, z1, z2, z3]) rfl (RPackRes.bad (by decide) rfl (two_below V.out (by omega) (by omega) _ _ _ _))
  have d1 : decide (k < 1) = false := by simp; omega
  by_cases h2 : 4 < k
  · have N := hid (show no = 13 by rw [PN.out, if_pos (.inr h2)])
    have d2 : decide (4 < k) = true := by simpa using h2
    clear PN h1 h2
    go_enter Tryd.func10, Tryd.ntmps10
    go_wp2_with fail
    generalize (((w.alloc _).alloc _).alloc _ : World) = w1 at *
    refine (fail_any 13 _).mono ?_
    rintro e w3 ⟨rfl, hb3⟩
    have h2 := W3.out.2.2.1.below hb3 W3.out.2.2.1.lt
    have h3 := W3.out.2.2.2.1.below hb3 W3.out.2.2.2.1.lt
    have hb := W3.out.1.trans (hb3.mono W3.out.1.size)
    obtain ⟨u0, u1⟩ := blk2H h2
    obtain ⟨u2, u3⟩ := blk2H h3
    have uf0 := h2.frozen 0
    have uf1 := h2.frozen 1
    have uf2 := h3.frozen 0
    have uf3 := h3.frozen 1
    obtain ⟨⟨z0, z1⟩, z2, z3⟩ := two_put h2 h3 (by omega) (.int .i64 0) (.slice none 0 0) (.int .i64 13) (.slice none 0 0)
    have V := hid hb
    clear hb hb3 h2 h3
    go_wp2_with fail
    rw [N.out]
    exact bodyPost_ret (v := .tuple #[.agg #[.int .i64 0, .slice none 0 0], .agg #[.int .i64 13, .slice none 0 0]]) (by simp [results, Tryd.results10, go_sem, z0, z1, z2, z3]) rfl (RPackRes.bad (by decide) rfl (two_below V.out (by omega) (by omega) _ _ _ _))
  have d2 : decide (4 < k) = false := by simp; omega
  by_cases h3 : q < 0
  · have N := hid (show no = 3 by rw [PN.out, if_neg (by omega), if_pos (.inl h3)])
    have d3 : decide (q < 0) = true := by simpa using h3
    clear PN h1 h2 h3
    go_enter Tryd.func10, Tryd.ntmps10
    go_wp2_with fail
    generalize (((w.alloc _).alloc _).alloc _ : World) = w1 at *
    refine (fail_any 3 _).mono ?_
    rintro e w3 ⟨rfl, hb3⟩
    have h2 := W3.out.2.2.1.below hb3 W3.out.2.2.1.lt
    have h3 := W3.out.2.2.2.1.below hb3 W3.out.2.2.2.1.lt
    have hb := W3.out.1.trans (hb3.mono W3.out.1.size)
    obtain ⟨u0, u1⟩ := blk2H h2
    obtain ⟨u2, u3⟩ := blk2H h3
    have uf0 := h2.frozen 0
    have uf1 := h2.frozen 1
    have uf2 := h3.frozen 0
    have uf3 := h3.frozen 1
    obtain ⟨⟨z0, z1⟩, z2, z3⟩ := two_put h2 h3 (by omega) (.int .i64 0) (.slice none 0 0) (.int .i64 3) (.slice none 0 0)
    have V := hid hb
    clear hb hb3 h2 h3
    go_wp2_with fail
    rw [N.out]
    exact bodyPost_ret (v := .tuple #[.agg #[.int .i64 0, .slice none 0 0], .agg #[.int .i64 3, .slice none 0 0]]) (by simp [results, Tryd.results10, go_sem, z0, z1, z2, z3]) rfl (RPackRes.bad (by decide) rfl (two_below V.out (by omega) (by omega) _ _ _ _))
  have d3 : decide (q < 0) = false := by simp; omega
  by_cases h4 : 15 < q
  · have N := hid (show no = 3 by rw [PN.out, if_neg (by omega), if_pos (.inr h4)])
    have d4 : decide (15 < q) = true := by simpa using h4
    clear PN h1 h2 h3 h4
    go_enter Tryd.func10, Tryd.ntmps10
    go_wp2_with fail
    generalize (((w.alloc _).alloc _).alloc _ : World) = w1 at *
    refine (fail_any 3 _).mono ?_
    rintro e w3 ⟨rfl, hb3⟩
    have h2 := W3.out.2.2.1.below hb3 W3.out.2.2.1.lt
    have h3 := W3.out.2.2.2.1.below hb3 W3.out.2.2.2.1.lt
    have hb := W3.out.1.trans (hb3.mono W3.out.1.size)
    obtain ⟨u0, u1⟩ := blk2H h2
    obtain ⟨u2, u3⟩ := blk2H h3
    have uf0 := h2.frozen 0
    have uf1 := h2.frozen 1
    have uf2 := h3.frozen 0
    have uf3 := h3.frozen 1
    obtain ⟨⟨z0, z1⟩, z2, z3⟩ := two_put h2 h3 (by omega) (.int .i64 0) (.slice none 0 0) (.int .i64 3) (.slice none 0 0)
    have V := hid hb
    clear hb hb3 h2 h3
    go_wp2_with fail
    rw [N.out]
    exact bodyPost_ret (v := .tuple #[.agg #[.int .i64 0, .slice none 0 0], .agg #[.int .i64 3, .slice none 0 0]]) (by simp [results, Tryd.results10, go_sem, z0, z1, z2, z3]) rfl (RPackRes.bad (by decide) rfl (two_below V.out (by omega) (by omega) _ _ _ _))
  have d4 : decide (15 < q) = false := by simp; omega
  by_cases h5 : 2 < k
  · have d5 : decide (2 < k) = true := by simpa using h5
    by_cases h6 : q = 0
    · have d6 : (q != 0) = false := by simp [h6]
      by_cases h7 : 0 < bs.length
      · have N := hid (show no = 2 by rw [PN.out, if_neg (by omega), if_neg (by omega), if_pos ⟨h5, .inr h7⟩])
        have d7 : decide ((0 : Int) < (bs.length : Int)) = true := by simp; omega
        have d8 : decide (0 < bs.length) = true := by simp; omega
        subst h6
        clear PN h1 h2 h3 h4 h5 h7
        go_enter Tryd.func10, Tryd.ntmps10
        go_wp2_with fail
        generalize (((w.alloc _).alloc _).alloc _ : World) = w1 at *
        refine (fail_any 2 _).mono ?_
        rintro e w3 ⟨rfl, hb3⟩
        have h2 := W3.out.2.2.1.below hb3 W3.out.2.2.1.lt
        have h3 := W3.out.2.2.2.1.below hb3 W3.out.2.2.2.1.lt
        have hb := W3.out.1.trans (hb3.mono W3.out.1.size)
        obtain ⟨u0, u1⟩ := blk2H h2
        obtain ⟨u2, u3⟩ := blk2H h3
        have uf0 := h2.frozen 0
        have uf1 := h2.frozen 1
        have uf2 := h3.frozen 0
        have uf3 := h3.frozen 1
        obtain ⟨⟨z0, z1⟩, z2, z3⟩ := two_put h2 h3 (by omega) (.int .i64 0) (.slice none 0 0) (.int .i64 2) (.slice none 0 0)
        have V := hid hb
        clear hb hb3 h2 h3
        go_wp2_with fail
        rw [N.out]
        exact bodyPost_ret (v := .tuple #[.agg #[.int .i64 0, .slice none 0 0], .agg #[.int .i64 2, .slice none 0 0]]) (by simp [results, Tryd.results10, go_sem, z0, z1, z2, z3]) rfl (RPackRes.bad (by decide) rfl (two_below V.out (by omega) (by omega) _ _ _ _))
      · have hb0 : bs.length = 0 := by omega
        have N := hid (show no = 0 by rw [PN.out, if_neg (by omega), if_neg (by omega), if_neg (by omega), if_neg (by omega)])
        have hp : packB k q bs = [] := by unfold packB; rw [if_pos h5]
        have hrd : ∀ W : World, True := fun _ => trivial
        have h2' := W3.out.2.2.1
        have h3' := W3.out.2.2.2.1
        rw [hp]
        rw [hb0] at *
        clear PN h1 h2 h3 h4 h5 h7 hp hrd h2' h3'
        subst h6
        go_enter Tryd.func10, Tryd.ntmps10
        go_wp2_with fail
        rw [N.out]
        exact bodyPost_ret (v := .tuple #[.agg #[.int .i64 k, .slice none 0 0], .agg #[.int .i64 0, .slice none 0 0]]) (by simp [results, Tryd.results10, go_sem]) rfl (RPackRes.good rfl (byt_nil _) ((((Below.refl _ _).alloc (Nat.le_refl _) _).alloc (by simp) _).alloc (by simp; omega) _))
    · have N := hid (show no = 2 by rw [PN.out, if_neg (by omega), if_neg (by omega), if_pos ⟨h5, .inl h6⟩])
      have d6 : (q != 0) = true := by simpa using h6
      clear PN h1 h2 h3 h4 h5 h6
      go_enter Tryd.func10, Tryd.ntmps10
      go_wp2_with fail
      generalize (((w.alloc _).alloc _).alloc _ : World) = w1 at *
      refine (fail_any 2 _).mono ?_
      rintro e w3 ⟨rfl, hb3⟩
      have h2 := W3.out.2.2.1.below hb3 W3.out.2.2.1.lt
      have h3 := W3.out.2.2.2.1.below hb3 W3.out.2.2.2.1.lt
      have hb := W3.out.1.trans (hb3.mono W3.out.1.size)
      obtain ⟨u0, u1⟩ := blk2H h2
      obtain ⟨u2, u3⟩ := blk2H h3
      have uf0 := h2.frozen 0
      have uf1 := h2.frozen 1
      have uf2 := h3.frozen 0
      have uf3 := h3.frozen 1
      obtain ⟨⟨z0, z1⟩, z2, z3⟩ := two_put h2 h3 (by omega) (.int .i64 0) (.slice none 0 0) (.int .i64 2) (.slice none 0 0)
      have V := hid hb
      clear hb hb3 h2 h3
      go_wp2_with fail
      rw [N.out]
      exact bodyPost_ret (v := .tuple #[.agg #[.int .i64 0, .slice none 0 0], .agg #[.int .i64 2, .slice none 0 0]]) (by simp [results, Tryd.results10, go_sem, z0, z1, z2, z3]) rfl (RPackRes.bad (by decide) rfl (two_below V.out (by omega) (by omega) _ _ _ _))
  · have d5 : decide (2 < k) = false := by simp; omega
    by_cases h6 : 65536 ≤ bs.length
    · have N := hid (show no = 5 by rw [PN.out, if_neg (by omega), if_neg (by omega), if_neg (by omega), if_pos h6])
      have d7 : decide ((65536 : Int) ≤ (bs.length : Int)) = true := by simp; omega
      have d8 : decide (65536 ≤ bs.length) = true := by simp; omega
      clear PN h1 h2 h3 h4 h5 h6
      go_enter Tryd.func10, Tryd.ntmps10
      go_wp2_with fail
      generalize (((w.alloc _).alloc _).alloc _ : World) = w1 at *
      refine (fail_any 5 _).mono ?_
      rintro e w3 ⟨rfl, hb3⟩
      have h2 := W3.out.2.2.1.below hb3 W3.out.2.2.1.lt
      have h3 := W3.out.2.2.2.1.below hb3 W3.out.2.2.2.1.lt
      have hb := W3.out.1.trans (hb3.mono W3.out.1.size)
      obtain ⟨u0, u1⟩ := blk2H h2
      obtain ⟨u2, u3⟩ := blk2H h3
      have uf0 := h2.frozen 0
      have uf1 := h2.frozen 1
      have uf2 := h3.frozen 0
      have uf3 := h3.frozen 1
      obtain ⟨⟨z0, z1⟩, z2, z3⟩ := two_put h2 h3 (by omega) (.int .i64 0) (.slice none 0 0) (.int .i64 5) (.slice none 0 0)
      have V := hid hb
      clear hb hb3 h2 h3
      go_wp2_with fail
      rw [N.out]
      exact bodyPost_ret (v := .tuple #[.agg #[.int .i64 0, .slice none 0 0], .agg #[.int .i64 5, .slice none 0 0]]) (by simp [results, Tryd.results10, go_sem, z0, z1, z2, z3]) rfl (RPackRes.bad (by decide) rfl (two_below V.out (by omega) (by omega) _ _ _ _))
    · have N := hid (show no = 0 by rw [PN.out, if_neg (by omega), if_neg (by omega), if_neg (by omega), if_neg h6])
      have d7 : decide ((65536 : Int) ≤ (bs.length : Int)) = false := by simp; omega
      have d8 : decide (65536 ≤ bs.length) = false := by simp; omega
      have hp : packB k q bs = UInt8.ofNat q.toNat :: bs := by unfold packB; rw [if_neg h5]
      rw [hp]
      have q1 : IntKind.u8.wrap q = (((UInt8.ofNat q.toNat).toNat : Nat) : Int) := by
        obtain ⟨n, rfl⟩ : ∃ n : Nat, q = (n : Int) := ⟨q.toNat, by omega⟩
        rw [wu8]; simp
      generalize UInt8.ofNat q.toNat = c1 at *
      have hl2 : bs.length < 65536 := by omega
      clear hl h1 h2 h3 h4 h5 h6 PN hp
      go_enter Tryd.func10, Tryd.ntmps10
      go_wp2_with fail
      generalize (((w.alloc _).alloc _).alloc _ : World) = w2 at *
      have hh := W3.out.2.1
      have hb2 := W3.out.1
      have hsz := W3.out.2.2.2.2
      have hcells : ∀ W, Blk W w.heap.size 39 #[.int .i64 k, .int .i64 q, .slice A bs.length c] → W.cell? ⟨w.heap.size, 0, none⟩ = some (.int .i64 k) ∧ W.cell? ⟨w.heap.size, 1, none⟩ = some (.int .i64 q) ∧ W.cell? ⟨w.heap.size, 2, none⟩ = some (.slice A bs.length c) := by
        intro W h
        exact ⟨(h.cell 0).trans rfl, (h.cell 1).trans rfl, (h.cell 2).trans rfl⟩
      have HC := hid hcells
      have k2 := hcells _ hh
      have k2d := hcells _ hh.drew
      have k3 := hcells _ (hh.drew.alloc (.cells #[.int .u8 (c1.toNat : Nat)] 5))
      have k5d := hcells _ (hh.alloc (.cells #[.int .u8 (c1.toNat : Nat)] 5)).drew
      have k3d := hcells _ (hh.alloc (.cells #[.int .u8 (c1.toNat : Nat)] 5))
      have OL := hid (World.ownsRow_lit (size := 1) (base := w2.heap.size) (e := 5) w2 #[.int .u8 (c1.toNat : Nat)] 1 (Nat.le_refl _) (by unfold maxLen; omega) rfl)
      have OLd := hid (World.ownsRow_lit (size := 1) (base := w2.heap.size) (e := 5) w2.drew #[.int .u8 (c1.toNat : Nat)] 1 (Nat.le_refl _) (by unfold maxLen; omega) rfl)
      have XA := hid ((X.out.below hb2).alloc (.cells #[.int .u8 (c1.toNat : Nat)] 5))
      have XD := hid (((X.out.below hb2).drew).alloc (.cells #[.int .u8 (c1.toNat : Nat)] 5))
      clear hcells hh hb2 hsz
      go_region_held_law (fun W => W.cell? ⟨w.heap.size, 0, none⟩ = some (.int .i64 k) ∧ W.cell? ⟨w.heap.size, 1, none⟩ = some (.int .i64 q) ∧ W.cell? ⟨w.heap.size, 2, none⟩ = some (.slice A bs.length c)) (first | exact k7 | exact k6 | exact k4 | exact k3 | exact k2 | exact k2d | exact k3d | exact k5d)
        (first
          | ((refine step_append_form _ (by rfl) (.tmp 63) (.tmp 65) _ (by rfl) w2.heap.size 5 i0 (.int .u8 0) 1 1 Tryd.underlying22 IP.out.1 IP.out.2.1 IP.out.2.2.1 IP.out.2.2.2 rfl (by omega) (.slice (some ⟨w2.heap.size, 0, none⟩) 1 1) 1 [.int .u8 (c1.toNat : Nat)] (by rfl) (by first | exact OL.out | exact OL.out.drew | exact OLd.out) (.slice A bs.length c) bs.length (bs.map byteV) (by rfl) (by first | exact XA.out.from_ | exact XA.out.drew.from_ | exact XD.out.from_) (one_bytes bs) (.inl (by simp [Value.ownBlock])) (by unfold maxLen; omega) (by omega) (by simp) (bs.length + 1) ((c1 :: bs).map byteV) (by omega) (by rfl) ?_)
             intro g cap w4 hown hgrow hat hlt
             have hbel : Below w2.heap.size w2 w4 := by
               first
                 | exact (((Below.refl w2.heap.size w2).alloc (Nat.le_refl _) _).drew).grown hgrow (by simp) (fun k hk => by simp [Value.ownBlock] at hk; omega)
                 | exact (((Below.refl w2.heap.size w2).drew).alloc (Nat.le_refl _) _).grown hgrow (by simp) (fun k hk => by simp [Value.ownBlock] at hk; omega)
                 | exact ((Below.refl w2.heap.size w2).alloc (Nat.le_refl _) _).grown hgrow (by simp) (fun k hk => by simp [Value.ownBlock] at hk; omega)
             have h4 := W3.out.2.1.below hbel W3.out.2.1.lt
             have k4 := HC.out _ h4
             have n1 : w.heap.size ≠ w.heap.size + 1 := by omega
             have n2 : w.heap.size ≠ w.heap.size + 2 := by omega
             have k6 := HC.out _ ((h4.far (p := ⟨w.heap.size + 1, 0, none⟩) n1 (.int .i64 k)).far (p := ⟨w.heap.size + 1, 1, none⟩) n1 (.slice (some ⟨g, 0, none⟩) (bs.length + 1) cap))
             have k7 := HC.out _ ((((h4.far (p := ⟨w.heap.size + 1, 0, none⟩) n1 (.int .i64 k)).far (p := ⟨w.heap.size + 1, 1, none⟩) n1 (.slice (some ⟨g, 0, none⟩) (bs.length + 1) cap)).far (p := ⟨w.heap.size + 2, 0, none⟩) n2 (.int .i64 0)).far (p := ⟨w.heap.size + 2, 1, none⟩) n2 (.slice none 0 0))
             clear h4
             have h2 := W3.out.2.2.1.below hbel W3.out.2.2.1.lt
             have h3 := W3.out.2.2.2.1.below hbel W3.out.2.2.2.1.lt
             obtain ⟨u0, u1⟩ := blk2H h2
             obtain ⟨u2, u3⟩ := blk2H h3
             have uf0 := h2.frozen 0
             have uf1 := h2.frozen 1
             have uf2 := h3.frozen 0
             have uf3 := h3.frozen 1
             have nf2 := ((h3.far (p := ⟨w.heap.size + 1, 0, none⟩) (by show w.heap.size + 2 ≠ w.heap.size + 1; omega) (.int .i64 k)).far (p := ⟨w.heap.size + 1, 1, none⟩) (by show w.heap.size + 2 ≠ w.heap.size + 1; omega) (.slice (some ⟨g, 0, none⟩) (bs.length + 1) cap))
             obtain ⟨n20, n21⟩ := blk2H nf2
             have n22 := nf2.frozen 0
             have n23 := nf2.frozen 1
             have TP := hid (two_put h2 h3 (by omega) (.int .i64 k) (.slice (some ⟨g, 0, none⟩) (bs.length + 1) cap) (.int .i64 0) (.slice none 0 0))
             have K4 := hid (And.intro hown (show Below w.heap.size w w4 from W3.out.1.trans (hbel.mono W3.out.1.size)))
             clear hown hgrow hat hlt hbel h2 h3 nf2))
      obtain ⟨⟨z0, z1⟩, z2, z3⟩ := TP.out
      go_wp2_with fail
      rw [N.out]
      exact bodyPost_ret (v := .tuple #[.agg #[.int .i64 k, .slice (some ⟨g, 0, none⟩) (bs.length + 1) cap], .agg #[.int .i64 0, .slice none 0 0]]) (by simp [results, Tryd.results10, go_sem, z0, z1, z2, z3]) rfl (RPackRes.good rfl (by
        refine Byt.only (S := fun j => j = w.heap.size + 1 ∨ j = w.heap.size + 2) (Byt.of_own (bs := c1 :: bs) K4.out.1 rfl) (Only.put (S := fun j => j = w.heap.size + 1 ∨ j = w.heap.size + 2) (Only.put (S := fun j => j = w.heap.size + 1 ∨ j = w.heap.size + 2) (Only.put (S := fun j => j = w.heap.size + 1 ∨ j = w.heap.size + 2) (Only.put (S := fun j => j = w.heap.size + 1 ∨ j = w.heap.size + 2) (Only.refl _ _) (.inl rfl) 0 _) (.inl rfl) 1 _) (.inr rfl) 0 _) (.inr rfl) 1 _) (fun j hj e => ?_)
        have := (K4.out.1.lt j hj).1
        have := W3.out.2.2.2.2
        omega) (two_below K4.out.2 (by omega) (by omega) _ _ _ _))
end Go.Proofs.YtkkgpdejmcpcpaaDoor

