/- Parts: XHeadE. -/
import Derived.Test.YtkkgpdejmcpcpaaDoorM30
/- Chapter 20: the document's Read. -/
namespace Go.Proofs.YtkkgpdejmcpcpaaDoor
open Go.RowKit

def RReadRes (no k q : Int) (bs : List UInt8) (w : World) (e : Ending) (w' : World) : Prop :=
  ∃ v, e = .returned (.tuple #[.agg #[.int .i64 (if no = 0 then k else 0), .int .i64 (if no = 0 then q else 0), v], .agg #[.int .i64 no, .slice none 0 0]]) ∧ Byt w' v (if no = 0 then bs else []) ∧ Below w.heap.size w w'
theorem RReadRes.bad {no k q : Int} {bs : List UInt8} {w w' : World} {e : Ending} (h : no ≠ 0) (he : e = .returned (.tuple #[.agg #[.int .i64 0, .int .i64 0, .slice none 0 0], .agg #[.int .i64 no, .slice none 0 0]])) (hb : Below w.heap.size w w') : RReadRes no k q bs w e w' :=
  ⟨.slice none 0 0, by rw [he, if_neg h, if_neg h], by rw [if_neg h]; exact byt_nil _, hb⟩
theorem RReadRes.good {k q : Int} {bs : List UInt8} {w w' : World} {e : Ending} {v : Value} (he : e = .returned (.tuple #[.agg #[.int .i64 k, .int .i64 q, v], .agg #[.int .i64 0, .slice none 0 0]])) (hv : Byt w' v bs) (hb : Below w.heap.size w w') : RReadRes 0 k q bs w e w' :=
  ⟨v, by rw [he, if_pos rfl, if_pos rfl], by rw [if_pos rfl]; exact hv, hb⟩
theorem three_put {W : World} {g1 g2 : Nat} {t1 t2 : TypeId} {a0 a1 a2 b0 b1 : Value} (h1 : Blk W g1 t1 #[a0, a1, a2]) (h2 : Blk W g2 t2 #[b0, b1]) (hne : g1 ≠ g2) (x0 x1 x2 y0 y1 : Value) :
    ((((((W.setCell ⟨g1, 0, none⟩ x0).setCell ⟨g1, 1, none⟩ x1).setCell ⟨g1, 2, none⟩ x2).setCell ⟨g2, 0, none⟩ y0).setCell ⟨g2, 1, none⟩ y1).cell? ⟨g1, 0, none⟩ = some x0 ∧ (((((W.setCell ⟨g1, 0, none⟩ x0).setCell ⟨g1, 1, none⟩ x1).setCell ⟨g1, 2, none⟩ x2).setCell ⟨g2, 0, none⟩ y0).setCell ⟨g2, 1, none⟩ y1).cell? ⟨g1, 1, none⟩ = some x1 ∧ (((((W.setCell ⟨g1, 0, none⟩ x0).setCell ⟨g1, 1, none⟩ x1).setCell ⟨g1, 2, none⟩ x2).setCell ⟨g2, 0, none⟩ y0).setCell ⟨g2, 1, none⟩ y1).cell? ⟨g1, 2, none⟩ = some x2) ∧
    (((((W.setCell ⟨g1, 0, none⟩ x0).setCell ⟨g1, 1, none⟩ x1).setCell ⟨g1, 2, none⟩ x2).setCell ⟨g2, 0, none⟩ y0).setCell ⟨g2, 1, none⟩ y1).cell? ⟨g2, 0, none⟩ = some y0 ∧ (((((W.setCell ⟨g1, 0, none⟩ x0).setCell ⟨g1, 1, none⟩ x1).setCell ⟨g1, 2, none⟩ x2).setCell ⟨g2, 0, none⟩ y0).setCell ⟨g2, 1, none⟩ y1).cell? ⟨g2, 1, none⟩ = some y1 := by
  have k1 := ((((h1.put 0 x0).put 1 x1).put 2 x2).far (p := ⟨g2, 0, none⟩) hne y0).far (p := ⟨g2, 1, none⟩) hne y1
  have k2 := ((((h2.far (p := ⟨g1, 0, none⟩) (Ne.symm hne) x0).far (p := ⟨g1, 1, none⟩) (Ne.symm hne) x1).far (p := ⟨g1, 2, none⟩) (Ne.symm hne) x2).put 0 y0).put 1 y1
  exact ⟨⟨(k1.cell 0).trans rfl, (k1.cell 1).trans rfl, (k1.cell 2).trans rfl⟩, (k2.cell 0).trans rfl, (k2.cell 1).trans rfl⟩
theorem three_below {w W : World} {g1 g2 : Nat} (h : Below w.heap.size w W) (l1 : w.heap.size ≤ g1) (l2 : w.heap.size ≤ g2) (x0 x1 x2 y0 y1 : Value) : Below w.heap.size w (((((W.setCell ⟨g1, 0, none⟩ x0).setCell ⟨g1, 1, none⟩ x1).setCell ⟨g1, 2, none⟩ x2).setCell ⟨g2, 0, none⟩ y0).setCell ⟨g2, 1, none⟩ y1) :=
  ((((h.setCell (p := ⟨g1, 0, none⟩) l1 _).setCell (p := ⟨g1, 1, none⟩) l1 _).setCell (p := ⟨g1, 2, none⟩) l1 _).setCell (p := ⟨g2, 0, none⟩) l2 _).setCell (p := ⟨g2, 1, none⟩) l2 _
theorem blk3H {W : World} {g : Nat} {t : TypeId} {a0 a1 a2 : Value} (h : Blk W g t #[a0, a1, a2]) : W.cell? ⟨g, 0, none⟩ = some a0 ∧ W.cell? ⟨g, 1, none⟩ = some a1 ∧ W.cell? ⟨g, 2, none⟩ = some a2 := ⟨(h.cell 0).trans rfl, (h.cell 1).trans rfl, (h.cell 2).trans rfl⟩
set_option maxRecDepth 100000 in
set_option maxHeartbeats 8000000 in
theorem rread_head (k : Int) (x : Value) (bs : List UInt8) (w : World) (hx : Byt w x bs) (hl : bs.length ≤ 140737488355328) :
    Calls Tryd.prog 12 #[.agg #[.int .i64 k, x]] w (RReadRes (readNo k bs) k (readQ k bs) (readB k bs) w) := by
  obtain ⟨A, c, rfl, hc⟩ := hx.form
  have X := hid hx
  clear hx
  have PN := hid (show readNo k bs = if k < 1 ∨ 4 < k then 13 else if 2 < k then (if 0 < bs.length then 2 else 0) else if bs.length = 0 then 1 else if 15 < (bs.getD 0 0).toNat then 3 else if 65536 < bs.length then 5 else 0 from rfl)
  generalize readNo k bs = no at *
  have hbel : Below w.heap.size w (((w.alloc (.cells #[.int .i64 k, .slice A bs.length c] 26)).alloc (.cells #[.int .i64 0, .int .i64 0, .slice none 0 0] 39)).alloc (.cells #[.int .i64 0, .slice none 0 0] 36)) := (((Below.refl _ _).alloc (Nat.le_refl _) _).alloc (by simp) _).alloc (by simp; omega) _
  have hsz : (((w.alloc (.cells #[.int .i64 k, .slice A bs.length c] 26)).alloc (.cells #[.int .i64 0, .int .i64 0, .slice none 0 0] 39)).alloc (.cells #[.int .i64 0, .slice none 0 0] 36)).heap.size = w.heap.size + 3 := by simp
  have W3 := hid (And.intro hbel (And.intro (show Blk (((w.alloc (.cells #[.int .i64 k, .slice A bs.length c] 26)).alloc (.cells #[.int .i64 0, .int .i64 0, .slice none 0 0] 39)).alloc (.cells #[.int .i64 0, .slice none 0 0] 36)) w.heap.size 26 #[.int .i64 k, .slice A bs.length c] from ((Blk.new _ _ _).alloc _).alloc _) (And.intro (show Blk (((w.alloc (.cells #[.int .i64 k, .slice A bs.length c] 26)).alloc (.cells #[.int .i64 0, .int .i64 0, .slice none 0 0] 39)).alloc (.cells #[.int .i64 0, .slice none 0 0] 36)) (w.heap.size + 1) 39 #[.int .i64 0, .int .i64 0, .slice none 0 0] from (Blk.newAt' _ _ _ (by simp)).alloc _) (And.intro (show Blk (((w.alloc (.cells #[.int .i64 k, .slice A bs.length c] 26)).alloc (.cells #[.int .i64 0, .int .i64 0, .slice none 0 0] 39)).alloc (.cells #[.int .i64 0, .slice none 0 0] 36)) (w.heap.size + 2) 36 #[.int .i64 0, .slice none 0 0] from Blk.newAt' _ _ _ (by simp)) hsz))))
  clear hbel hsz
  by_cases h1 : k < 1
  · have N := hid (show no = 13 by rw [PN.out, if_pos (.inl h1)])
    have d1 : decide (k < 1) = true := by simpa using h1
    clear PN h1
    go_enter Tryd.func12, Tryd.ntmps12
    go_wp2_with fail
    generalize (((w.alloc _).alloc _).alloc _ : World) = w1 at *
    refine (fail_any 13 _).mono ?_
    rintro e w3 ⟨rfl, hb3⟩
    have h2 := W3.out.2.2.1.below hb3 W3.out.2.2.1.lt
    have h3 := W3.out.2.2.2.1.below hb3 W3.out.2.2.2.1.lt
    have hb := W3.out.1.trans (hb3.mono W3.out.1.size)
    obtain ⟨u0, u1, u4⟩ := blk3H h2
    obtain ⟨u2, u3⟩ := blk2H h3
    have uf0 := h2.frozen 0
    have uf1 := h2.frozen 1
    have uf4 := h2.frozen 2
    have uf2 := h3.frozen 0
    have uf3 := h3.frozen 1
    obtain ⟨⟨z0, z1, z4⟩, z2, z3⟩ := three_put h2 h3 (by omega) (.int .i64 0) (.int .i64 0) (.slice none 0 0) (.int .i64 13) (.slice none 0 0)
    have V := hid hb
    clear hb hb3 h2 h3
    go_wp2_with fail
    rw [N.out]
    exact bodyPost_ret (v := .tuple #[.agg #[.int .i64 0, .int .i64 0, .slice none 0 0], .agg #[.int .i64 13, .slice none 0 0]]) (by simp [results, Tryd.results12, go_sem, z0, z1, z2, z3, z4]) rfl (RReadRes.bad (by decide) rfl (three_below V.out (by omega) (by omega) _ _ _ _ _))
  have d1 : decide (k < 1) = false := by simp; omega
  by_cases h2 : 4 < k
  · have N := hid (show no = 13 by rw [PN.out, if_pos (.inr h2)])
    have d2 : decide (4 < k) = true := by simpa using h2
    clear PN h1 h2
    go_enter Tryd.func12, Tryd.ntmps12
    go_wp2_with fail
    generalize (((w.alloc _).alloc _).alloc _ : World) = w1 at *
    refine (fail_any 13 _).mono ?_
    rintro e w3 ⟨rfl, hb3⟩
    have h2 := W3.out.2.2.1.below hb3 W3.out.2.2.1.lt
    have h3 := W3.out.2.2.2.1.below hb3 W3.out.2.2.2.1.lt
    have hb := W3.out.1.trans (hb3.mono W3.out.1.size)
    obtain ⟨u0, u1, u4⟩ := blk3H h2
    obtain ⟨u2, u3⟩ := blk2H h3
    have uf0 := h2.frozen 0
    have uf1 := h2.frozen 1
    have uf4 := h2.frozen 2
    have uf2 := h3.frozen 0
    have uf3 := h3.frozen 1
    obtain ⟨⟨z0, z1, z4⟩, z2, z3⟩ := three_put h2 h3 (by omega) (.int .i64 0) (.int .i64 0) (.slice none 0 0) (.int .i64 13) (.slice none 0 0)
    have V := hid hb
    clear hb hb3 h2 h3
    go_wp2_with fail
    rw [N.out]
    exact bodyPost_ret (v := .tuple #[.agg #[.int .i64 0, .int .i64 0, .slice none 0 0], .agg #[.int .i64 13, .slice none 0 0]]) (by simp [results, Tryd.results12, go_sem, z0, z1, z2, z3, z4]) rfl (RReadRes.bad (by decide) rfl (three_below V.out (by omega) (by omega) _ _ _ _ _))
  have d2 : decide (4 < k) = false := by simp; omega
  by_cases h5 : 2 < k
  · have d5 : decide (2 < k) = true := by simpa using h5
    by_cases h7 : 0 < bs.length
    · have N := hid (show no = 2 by rw [PN.out, if_neg (by omega), if_pos h5, if_pos h7])
      have d7 : decide ((0 : Int) < (bs.length : Int)) = true := by simp; omega
      have d8 : decide (0 < bs.length) = true := by simp; omega
      clear PN h1 h2 h5 h7
      go_enter Tryd.func12, Tryd.ntmps12
      go_wp2_with fail
      generalize (((w.alloc _).alloc _).alloc _ : World) = w1 at *
      refine (fail_any 2 _).mono ?_
      rintro e w3 ⟨rfl, hb3⟩
      have h2 := W3.out.2.2.1.below hb3 W3.out.2.2.1.lt
      have h3 := W3.out.2.2.2.1.below hb3 W3.out.2.2.2.1.lt
      have hb := W3.out.1.trans (hb3.mono W3.out.1.size)
      obtain ⟨u0, u1, u4⟩ := blk3H h2
      obtain ⟨u2, u3⟩ := blk2H h3
      have uf0 := h2.frozen 0
      have uf1 := h2.frozen 1
      have uf4 := h2.frozen 2
      have uf2 := h3.frozen 0
      have uf3 := h3.frozen 1
      obtain ⟨⟨z0, z1, z4⟩, z2, z3⟩ := three_put h2 h3 (by omega) (.int .i64 0) (.int .i64 0) (.slice none 0 0) (.int .i64 2) (.slice none 0 0)
      have V := hid hb
      clear hb hb3 h2 h3
      go_wp2_with fail
      rw [N.out]
      exact bodyPost_ret (v := .tuple #[.agg #[.int .i64 0, .int .i64 0, .slice none 0 0], .agg #[.int .i64 2, .slice none 0 0]]) (by simp [results, Tryd.results12, go_sem, z0, z1, z2, z3, z4]) rfl (RReadRes.bad (by decide) rfl (three_below V.out (by omega) (by omega) _ _ _ _ _))
    · have hb0 : bs.length = 0 := by omega
      have N := hid (show no = 0 by rw [PN.out, if_neg (by omega), if_pos h5, if_neg h7])
      have hp : readB k bs = [] := by unfold readB; rw [if_pos h5]
      have hq : readQ k bs = 0 := by unfold readQ; rw [if_pos h5]
      rw [hp, hq]
      rw [hb0] at *
      clear PN h1 h2 h5 h7 hp hq
      go_enter Tryd.func12, Tryd.ntmps12
      go_wp2_with fail
      rw [N.out]
      exact bodyPost_ret (v := .tuple #[.agg #[.int .i64 k, .int .i64 0, .slice none 0 0], .agg #[.int .i64 0, .slice none 0 0]]) (by simp [results, Tryd.results12, go_sem]) rfl (RReadRes.good rfl (byt_nil _) ((((Below.refl _ _).alloc (Nat.le_refl _) _).alloc (by simp) _).alloc (by simp; omega) _))
  · have d5 : decide (2 < k) = false := by simp; omega
    by_cases h4 : bs.length = 0
    · have N := hid (show no = 1 by rw [PN.out, if_neg (by omega), if_neg h5, if_pos h4])
      rw [h4] at W3 ⊢
      clear PN h1 h2 h5
      go_enter Tryd.func12, Tryd.ntmps12
      go_wp2_with fail
      generalize (((w.alloc _).alloc _).alloc _ : World) = w1 at *
      refine (fail_any 1 _).mono ?_
      rintro e w3 ⟨rfl, hb3⟩
      have h2 := W3.out.2.2.1.below hb3 W3.out.2.2.1.lt
      have h3 := W3.out.2.2.2.1.below hb3 W3.out.2.2.2.1.lt
      have hb := W3.out.1.trans (hb3.mono W3.out.1.size)
      obtain ⟨u0, u1, u4⟩ := blk3H h2
      obtain ⟨u2, u3⟩ := blk2H h3
      have uf0 := h2.frozen 0
      have uf1 := h2.frozen 1
      have uf4 := h2.frozen 2
      have uf2 := h3.frozen 0
      have uf3 := h3.frozen 1
      obtain ⟨⟨z0, z1, z4⟩, z2, z3⟩ := three_put h2 h3 (by omega) (.int .i64 0) (.int .i64 0) (.slice none 0 0) (.int .i64 1) (.slice none 0 0)
      have V := hid hb
      clear hb hb3 h2 h3
      go_wp2_with fail
      rw [N.out]
      exact bodyPost_ret (v := .tuple #[.agg #[.int .i64 0, .int .i64 0, .slice none 0 0], .agg #[.int .i64 1, .slice none 0 0]]) (by simp [results, Tryd.results12, go_sem, z0, z1, z2, z3, z4]) rfl (RReadRes.bad (by decide) rfl (three_below V.out (by omega) (by omega) _ _ _ _ _))
    · obtain ⟨b, off, u, hA, hbw, hu, hcell⟩ := X.out.at_ (j := 0) (by omega)
      subst hA
      have hug : bs.getD 0 0 = u := by rw [List.getD_eq_getElem?_getD, hu]; rfl
      rw [hug] at PN
      have hcell0 : w.cell? ⟨b, off, none⟩ = some (.int .u8 u.toNat) := by simpa using hcell
      have hcell1 := (W3.out.1.cell (p := ⟨b, off, none⟩) hbw).trans hcell0
      have hl0 : ((bs.length : Int) == 0) = false := by simp; intro h; exact h4 (by rw [h]; rfl)
      have hl1 : (0 : Int) < (bs.length : Int) := by omega
      have hl2 : 0 < bs.length := by omega
      have hb2 : b ≠ w.heap.size ∧ b ≠ w.heap.size + 1 ∧ b ≠ w.heap.size + 1 + 1 := by omega
      by_cases h6 : 15 < u.toNat
      · have N := hid (show no = 3 by rw [PN.out, if_neg (by omega), if_neg h5, if_neg h4, if_pos h6])
        have d5' : decide ((15 : Int) < (u.toNat : Int)) = true := by simp; omega
        have d6' : decide (15 < u.toNat) = true := by simp; omega
        clear PN h1 h2 h4 h5 h6 hu hcell hug
        go_enter Tryd.func12, Tryd.ntmps12
        go_wp2_with fail
        generalize (((w.alloc _).alloc _).alloc _ : World) = w1 at *
        refine (fail_any 3 _).mono ?_
        rintro e w3 ⟨rfl, hb3⟩
        have h2 := W3.out.2.2.1.below hb3 W3.out.2.2.1.lt
        have h3 := W3.out.2.2.2.1.below hb3 W3.out.2.2.2.1.lt
        have hb := W3.out.1.trans (hb3.mono W3.out.1.size)
        obtain ⟨u0, u1, u4⟩ := blk3H h2
        obtain ⟨u2, u3⟩ := blk2H h3
        have uf0 := h2.frozen 0
        have uf1 := h2.frozen 1
        have uf4 := h2.frozen 2
        have uf2 := h3.frozen 0
        have uf3 := h3.frozen 1
        obtain ⟨⟨z0, z1, z4⟩, z2, z3⟩ := three_put h2 h3 (by omega) (.int .i64 0) (.int .i64 0) (.slice none 0 0) (.int .i64 3) (.slice none 0 0)
        have V := hid hb
        clear hb hb3 h2 h3
        go_wp2_with fail
        rw [N.out]
        exact bodyPost_ret (v := .tuple #[.agg #[.int .i64 0, .int .i64 0, .slice none 0 0], .agg #[.int .i64 3, .slice none 0 0]]) (by simp [results, Tryd.results12, go_sem, z0, z1, z2, z3, z4]) rfl (RReadRes.bad (by decide) rfl (three_below V.out (by omega) (by omega) _ _ _ _ _))
      have d5' : decide ((15 : Int) < (u.toNat : Int)) = false := by simp; omega
      have d6' : decide (15 < u.toNat) = false := by simp; omega
      by_cases h7 : 65536 < bs.length
      · have N := hid (show no = 5 by rw [PN.out, if_neg (by omega), if_neg h5, if_neg h4, if_neg h6, if_pos h7])
        have d7 : decide ((65536 : Int) < (bs.length : Int)) = true := by simp; omega
        have d8 : decide (65536 < bs.length) = true := by simp; omega
        clear PN h1 h2 h4 h5 h6 h7 hu hcell hug
        go_enter Tryd.func12, Tryd.ntmps12
        go_wp2_with fail
        generalize (((w.alloc _).alloc _).alloc _ : World) = w1 at *
        refine (fail_any 5 _).mono ?_
        rintro e w3 ⟨rfl, hb3⟩
        have h2 := W3.out.2.2.1.below hb3 W3.out.2.2.1.lt
        have h3 := W3.out.2.2.2.1.below hb3 W3.out.2.2.2.1.lt
        have hb := W3.out.1.trans (hb3.mono W3.out.1.size)
        obtain ⟨u0, u1, u4⟩ := blk3H h2
        obtain ⟨u2, u3⟩ := blk2H h3
        have uf0 := h2.frozen 0
        have uf1 := h2.frozen 1
        have uf4 := h2.frozen 2
        have uf2 := h3.frozen 0
        have uf3 := h3.frozen 1
        obtain ⟨⟨z0, z1, z4⟩, z2, z3⟩ := three_put h2 h3 (by omega) (.int .i64 0) (.int .i64 0) (.slice none 0 0) (.int .i64 5) (.slice none 0 0)
        have V := hid hb
        clear hb hb3 h2 h3
        go_wp2_with fail
        rw [N.out]
        exact bodyPost_ret (v := .tuple #[.agg #[.int .i64 0, .int .i64 0, .slice none 0 0], .agg #[.int .i64 5, .slice none 0 0]]) (by simp [results, Tryd.results12, go_sem, z0, z1, z2, z3, z4]) rfl (RReadRes.bad (by decide) rfl (three_below V.out (by omega) (by omega) _ _ _ _ _))
      have N := hid (show no = 0 by rw [PN.out, if_neg (by omega), if_neg h5, if_neg h4, if_neg h6, if_neg h7])
      have d7 : decide ((65536 : Int) < (bs.length : Int)) = false := by simp; omega
      have d8 : decide (65536 < bs.length) = false := by simp; omega
      have hq : readQ k bs = (u.toNat : Nat) := by unfold readQ; rw [if_neg h5, hug]
      have hp : readB k bs = bs.drop 1 := by unfold readB; rw [if_neg h5]
      rw [hq, hp]
      have hw7 : IntKind.i64.wrap (u.toNat : Int) = (u.toNat : Int) := IntWalk.i64_in _ (by have := u.toNat_lt; omega)
      have hl3 : bs.length ≤ 65536 := by omega
      have hdl : (bs.drop 1).length = bs.length - 1 := by simp
      obtain ⟨o2, ho2⟩ : ∃ o2 : Nat, o2 = if c = 1 then off else off + 1 := ⟨_, rfl⟩
      have hfr : From w 1 (.slice (some ⟨b, o2, none⟩) (bs.length - 1) (c - 1)) (bs.length - 1) ((bs.drop 1).map byteV) := by
        refine ⟨_, _, rfl, by simp, fun h0 => ?_⟩
        have hc1 : c ≠ 1 := by omega
        rw [if_neg hc1] at ho2
        subst ho2
        obtain ⟨A, cc, hA, _, hcc⟩ := (X.out.dropAt (k := 1) (by omega)).from_
        rw [hdl] at hA hcc
        obtain ⟨ad, h7, h8⟩ := hcc h0
        injection hA with hA1 hA2 hA3
        subst hA1
        cases h7
        exact ⟨_, rfl, h8⟩
      have hix : ∀ W : World, (Instr.indexAt 22 (.slice (some ⟨b, off, none⟩) bs.length c) (.int .i64 0)).run Tryd.prog W = .ok (.pointer (some ⟨b, off, none⟩)) W := by
        intro W
        go_simp
      have hsl : ∀ W : World, (Instr.sliceAt 22 (.slice (some ⟨b, off, none⟩) bs.length c) (some (.int .i64 1)) none none).run Tryd.prog W = .ok (.slice (some ⟨b, o2, none⟩) (bs.length - 1) (c - 1)) W := by
        intro W
        have e : (if c = 1 then (some ⟨b, off, none⟩ : Option Addr) else some ⟨b, off + 1, none⟩) = some ⟨b, o2, none⟩ := by rw [ho2]; split <;> rfl
        have h1' : (1 : Int) ≤ (bs.length : Int) := by omega
        have h2' : 1 ≤ bs.length := by omega
        go_simp
        try rw [e]
      clear h1 h2 PN h4 h5 h6 h7 hu hcell hl hug hp hq
      generalize bs.drop 1 = bd at *
      have hfr' : From w 1 (.slice (some ⟨b, o2, none⟩) (bs.length - 1) (c - 1)) bd.length (bd.map byteV) := by rw [hdl]; exact hfr
      have CB := hid (fun W (hb : Below w.heap.size w W) => copy_bytes (.slice (some ⟨b, o2, none⟩) (bs.length - 1) (c - 1)) bd W (by
        obtain ⟨A, cc, h1, h2, h3⟩ := hfr'
        refine ⟨A, cc, h1, h2, fun h0 => ?_⟩
        obtain ⟨ad, h4, h5⟩ := h3 h0
        refine ⟨ad, h4, fun j u hu => ?_⟩
        have := h5 j u hu
        rw [hb.cell (World.block_lt_of_cell? _ _ this)]
        exact this) (by omega))
      rw [hdl] at CB
      clear hfr hfr' ho2
      go_enter Tryd.func12, Tryd.ntmps12
      go_wp2_with fail
      generalize (((w.alloc _).alloc _).alloc _ : World) = w2 at *
      have hcells : ∀ W, Blk W w.heap.size 26 #[.int .i64 k, .slice (some ⟨b, off, none⟩) bs.length c] → Below w.heap.size w W → W.cell? ⟨w.heap.size, 0, none⟩ = some (.int .i64 k) ∧ W.cell? ⟨w.heap.size, 1, none⟩ = some (.slice (some ⟨b, off, none⟩) bs.length c) ∧ W.cell? ⟨b, off, none⟩ = some (.int .u8 u.toNat) := by
        intro W h hb
        exact ⟨(h.cell 0).trans rfl, (h.cell 1).trans rfl, (hb.cell (p := ⟨b, off, none⟩) hbw).trans hcell0⟩
      have HC := hid hcells
      have k2 := hcells _ W3.out.2.1 W3.out.1
      have k2d := hcells _ W3.out.2.1.drew W3.out.1.drew
      clear hcells hbw hcell0
      go_region_held_law (fun W => W.cell? ⟨w.heap.size, 0, none⟩ = some (.int .i64 k) ∧ W.cell? ⟨w.heap.size, 1, none⟩ = some (.slice (some ⟨b, off, none⟩) bs.length c) ∧ W.cell? ⟨b, off, none⟩ = some (.int .u8 u.toNat)) (first | exact k7 | exact k6 | exact k4 | exact k2 | exact k2d)
        (first
          | (go_at_call 8
             refine (CB.out _ (by first | exact W3.out.1 | exact W3.out.1.drew)).mono ?_
             rintro e w4 ⟨g, cap, rfl, hown, hbel⟩
             have hbel2 : Below w2.heap.size w2 w4 := by first | exact hbel | exact ((Below.refl w2.heap.size w2).drew).trans hbel
             have hb4 : Below w.heap.size w w4 := W3.out.1.trans (hbel2.mono W3.out.1.size)
             have h4 := W3.out.2.1.below hbel2 W3.out.2.1.lt
             have k4 := HC.out _ h4 hb4
             have n1 : w.heap.size ≠ w.heap.size + 1 := by omega
             have n2 : w.heap.size ≠ w.heap.size + 2 := by omega
             have l1 : w.heap.size ≤ w.heap.size + 1 := by omega
             have l2 : w.heap.size ≤ w.heap.size + 2 := by omega
             have k6 := HC.out _ (((h4.far (p := ⟨w.heap.size + 1, 0, none⟩) n1 (.int .i64 k)).far (p := ⟨w.heap.size + 1, 1, none⟩) n1 (.int .i64 (u.toNat : Nat))).far (p := ⟨w.heap.size + 1, 2, none⟩) n1 (.slice (some ⟨g, 0, none⟩) (bs.length - 1) cap)) (((hb4.setCell (p := ⟨w.heap.size + 1, 0, none⟩) l1 _).setCell (p := ⟨w.heap.size + 1, 1, none⟩) l1 _).setCell (p := ⟨w.heap.size + 1, 2, none⟩) l1 _)
             have k7 := HC.out _ (((((h4.far (p := ⟨w.heap.size + 1, 0, none⟩) n1 (.int .i64 k)).far (p := ⟨w.heap.size + 1, 1, none⟩) n1 (.int .i64 (u.toNat : Nat))).far (p := ⟨w.heap.size + 1, 2, none⟩) n1 (.slice (some ⟨g, 0, none⟩) (bs.length - 1) cap)).far (p := ⟨w.heap.size + 2, 0, none⟩) n2 (.int .i64 0)).far (p := ⟨w.heap.size + 2, 1, none⟩) n2 (.slice none 0 0)) (three_below hb4 l1 l2 _ _ _ _ _)
             clear h4
             have h2 := W3.out.2.2.1.below hbel2 W3.out.2.2.1.lt
             have h3 := W3.out.2.2.2.1.below hbel2 W3.out.2.2.2.1.lt
             obtain ⟨u0, u1, u4⟩ := blk3H h2
             obtain ⟨u2, u3⟩ := blk2H h3
             have uf0 := h2.frozen 0
             have uf1 := h2.frozen 1
             have uf4 := h2.frozen 2
             have uf2 := h3.frozen 0
             have uf3 := h3.frozen 1
             have ne21 : w.heap.size + 2 ≠ w.heap.size + 1 := by omega
             have nf2 := ((h3.far (p := ⟨w.heap.size + 1, 0, none⟩) ne21 (.int .i64 k)).far (p := ⟨w.heap.size + 1, 1, none⟩) ne21 (.int .i64 (u.toNat : Nat))).far (p := ⟨w.heap.size + 1, 2, none⟩) ne21 (.slice (some ⟨g, 0, none⟩) (bs.length - 1) cap)
             obtain ⟨n20, n21⟩ := blk2H nf2
             have n22 := nf2.frozen 0
             have n23 := nf2.frozen 1
             have TP := hid (three_put h2 h3 (by omega) (.int .i64 k) (.int .i64 (u.toNat : Nat)) (.slice (some ⟨g, 0, none⟩) (bs.length - 1) cap) (.int .i64 0) (.slice none 0 0))
             have K4 := hid (And.intro (show w4.ownsRow w2.heap.size 5 1 (.slice (some ⟨g, 0, none⟩) (bs.length - 1) cap) (bs.length - 1) (bd.map byteV) by first | exact hown | (rw [← hdl]; exact hown)) hb4)
             clear hown hbel hbel2 h2 h3 nf2 hb4))
      obtain ⟨⟨z0, z1, z4⟩, z2, z3⟩ := TP.out
      go_wp2_with fail
      rw [N.out]
      exact bodyPost_ret (v := .tuple #[.agg #[.int .i64 k, .int .i64 (u.toNat : Nat), .slice (some ⟨g, 0, none⟩) (bs.length - 1) cap], .agg #[.int .i64 0, .slice none 0 0]]) (by simp [results, Tryd.results12, go_sem, z0, z1, z2, z3, z4]) rfl (RReadRes.good rfl (by
        refine Byt.only (S := fun j => j = w.heap.size + 1 ∨ j = w.heap.size + 2) (Byt.of_own (bs := bd) K4.out.1 hdl) (Only.put (S := fun j => j = w.heap.size + 1 ∨ j = w.heap.size + 2) (Only.put (S := fun j => j = w.heap.size + 1 ∨ j = w.heap.size + 2) (Only.put (S := fun j => j = w.heap.size + 1 ∨ j = w.heap.size + 2) (Only.put (S := fun j => j = w.heap.size + 1 ∨ j = w.heap.size + 2) (Only.put (S := fun j => j = w.heap.size + 1 ∨ j = w.heap.size + 2) (Only.refl _ _) (.inl rfl) 0 _) (.inl rfl) 1 _) (.inl rfl) 2 _) (.inr rfl) 0 _) (.inr rfl) 1 _) (fun j hj e => ?_)
        have := (K4.out.1.lt j hj).1
        have := W3.out.2.2.2.2
        omega) (three_below K4.out.2 (by omega) (by omega) _ _ _ _ _))
end Go.Proofs.YtkkgpdejmcpcpaaDoor

