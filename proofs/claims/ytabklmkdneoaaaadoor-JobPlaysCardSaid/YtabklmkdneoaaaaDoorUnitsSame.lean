/- kinref.Units: the walk. -/
import Derived.Test.YtabklmkdneoaaaaDoorURSplit
namespace Go.Proofs.YtabklmkdneoaaaaDoor
open Go.RowKit

/-- The slice x reads as these units. -/
structure RdUnits (w : World) (x : Value) (ps : UV) : Prop where
  row : ∃ A c, x = .slice A ps.length c ∧ (ps ≠ [] → ∃ b off, A = some ⟨b, off, none⟩ ∧ b < w.heap.size ∧ ∀ (i : Nat) (p : UnitS × Value), ps[i]? = some p →
    w.cell? ⟨b, off + i * 4, none⟩ = some (.int .i64 p.1.kind) ∧ w.cell? ⟨b, off + i * 4 + 1, none⟩ = some p.2 ∧ w.cell? ⟨b, off + i * 4 + 2, none⟩ = some (.int .i64 p.1.at_) ∧ w.cell? ⟨b, off + i * 4 + 3, none⟩ = some (.int .i64 p.1.end_))
  data : ∀ p ∈ ps, From w 1 p.2 p.1.data.length (p.1.data.map byteV)
theorem OwnUnits.reads {w : World} {B : Nat} {lv : Value} {ps : UV} (h : OwnUnits w B lv ps) : RdUnits w lv ps := by
  refine ⟨?_, fun p hp => From.of_own (h.data p hp)⟩
  rcases h.row.2 with ⟨rfl, h0⟩ | ⟨g, cap, cur, rfl, _, hg, _⟩
  · exact ⟨none, 0, by rw [h0], fun hne => absurd (List.eq_nil_of_length_eq_zero h0) hne⟩
  · refine ⟨some ⟨g, 0, none⟩, cap, rfl, fun _ => ⟨g, 0, rfl, (Array.getElem?_eq_some_iff.1 hg).1, fun i p hp => ?_⟩⟩
    obtain ⟨h1, h2, h3, h4⟩ := unitCells_at ps i p hp
    have hi := (List.getElem?_eq_some_iff.1 hp).1
    rw [Nat.zero_add]
    exact ⟨(h.row.cellAt (i * 4) (by omega)).trans h1, (h.row.cellAt (i * 4 + 1) (by omega)).trans h2, (h.row.cellAt (i * 4 + 2) (by omega)).trans h3, (h.row.cellAt (i * 4 + 3) (by omega)).trans h4⟩
theorem RdUnits.below {w w' : World} {x : Value} {ps : UV} (h : RdUnits w x ps) (hb : Below w.heap.size w w') : RdUnits w' x ps := by
  obtain ⟨⟨A, c, rfl, h2⟩, h3⟩ := h
  refine ⟨⟨A, c, rfl, fun hne => ?_⟩, fun p hp => from_keep (h3 p hp) hb⟩
  obtain ⟨b, off, rfl, h4, h5⟩ := h2 hne
  refine ⟨b, off, rfl, Nat.lt_of_lt_of_le h4 hb.size, fun i p hp => ?_⟩
  obtain ⟨k0, k1, k2, k3⟩ := h5 i p hp
  have hk := hb.block b h4
  exact ⟨(World.cell?_of_block (w := w) (a := ⟨b, _, none⟩) hk).trans k0, (World.cell?_of_block (w := w) (a := ⟨b, _, none⟩) hk).trans k1, (World.cell?_of_block (w := w) (a := ⟨b, _, none⟩) hk).trans k2, (World.cell?_of_block (w := w) (a := ⟨b, _, none⟩) hk).trans k3⟩
theorem RdUnits.form {w : World} {x : Value} {ps : UV} (h : RdUnits w x ps) : ∃ A c, x = .slice A ps.length c := by
  obtain ⟨⟨A, c, h1, _⟩, _⟩ := h
  exact ⟨A, c, h1⟩
theorem RdUnits.at_ {w : World} {A : Option Addr} {n c : Nat} {ps : UV} (h : RdUnits w (.slice A n c) ps) {i : Nat} {p : UnitS × Value} (hp : ps[i]? = some p) :
    ∃ b off, A = some ⟨b, off, none⟩ ∧ b < w.heap.size ∧ w.cell? ⟨b, off + i * 4, none⟩ = some (.int .i64 p.1.kind) ∧ w.cell? ⟨b, off + i * 4 + 1, none⟩ = some p.2 ∧ w.cell? ⟨b, off + i * 4 + 2, none⟩ = some (.int .i64 p.1.at_) ∧ w.cell? ⟨b, off + i * 4 + 3, none⟩ = some (.int .i64 p.1.end_) ∧ From w 1 p.2 p.1.data.length (p.1.data.map byteV) := by
  obtain ⟨⟨A', c', e, h2⟩, h3⟩ := h
  injection e with e1 e2 e3
  subst e1
  obtain ⟨b, off, e4, h4, h5⟩ := h2 (by rintro rfl; simp at hp)
  obtain ⟨k0, k1, k2, k3⟩ := h5 i p hp
  exact ⟨b, off, e4, h4, k0, k1, k2, k3, h3 p (List.mem_of_getElem? hp)⟩
theorem cell_keep {w W : World} {p : Addr} {v : Value} (hb : Below w.heap.size w W) (h : w.cell? p = some v) : W.cell? p = some v := (hb.cell (World.block_lt_of_cell? _ _ h)).trans h
set_option maxRecDepth 100000 in
set_option maxHeartbeats 4000000 in
theorem units_same (x y : Value) (ps qs : UV) (w : World) (hx : RdUnits w x ps) (hy : RdUnits w y qs) (he : ps.map Prod.fst = qs.map Prod.fst) (hl : ps.length ≤ 1000000) :
    Calls Tryd.prog 38 #[x, y] w fun e w' => e = .returned (.bool true) ∧ Below w.heap.size w w' := by
  obtain ⟨A1, c1, rfl⟩ := hx.form
  obtain ⟨A2, c2, rfl⟩ := hy.form
  have hlen : qs.length = ps.length := by have := congrArg List.length he; simpa using this.symm
  rw [hlen] at hy ⊢
  have H := hid (And.intro hx (And.intro hy (And.intro he hl)))
  clear hx hy he hl hlen
  go_enter Tryd.func38, Tryd.ntmps38
  go_wp2_with fail
  go_loopg [5] ps.length (fun k iv wr => ∃ j : Nat, j + k = ps.length ∧ iv = .int .i64 j ∧ Below w.heap.size w wr)
  case atStart => exact ⟨0, by omega, rfl, Below.refl _ _⟩
  case round =>
    obtain ⟨j, hj, rfl, hb⟩ := hrel
    by_cases hlt : j < ps.length
    · obtain ⟨p, hp⟩ : ∃ p, ps[j]? = some p := ⟨ps[j], List.getElem?_eq_getElem hlt⟩
      obtain ⟨q, hq⟩ : ∃ q, qs[j]? = some q := by
        have h1 := congrArg (·[j]?) H.out.2.2.1
        simp only [List.getElem?_map, hp, Option.map_some] at h1
        cases hq : qs[j]? with
        | none => rw [hq] at h1; simp at h1
        | some q => exact ⟨q, rfl⟩
      have hpq : p.1 = q.1 := by
        have h1 := congrArg (·[j]?) H.out.2.2.1
        simp only [List.getElem?_map, hp, hq, Option.map_some] at h1
        exact Option.some.inj h1
      obtain ⟨u, d1⟩ := p
      obtain ⟨u', d2⟩ := q
      obtain rfl : u = u' := hpq
      obtain ⟨b1, o1, rfl, _, p0, p1, p2, p3, F1⟩ := (H.out.1.below hb).at_ hp
      obtain ⟨b2, o2, rfl, _, q0, q1, q2, q3, F2⟩ := (H.out.2.1.below hb).at_ hq
      dsimp only at p0 p1 p2 p3 q0 q1 q2 q3 F1 F2
      obtain ⟨A3, c3, rfl, _⟩ := id F1
      obtain ⟨A4, c4, rfl, _⟩ := id F2
      have FF := hid (And.intro F1 (And.intro F2 (And.intro hb hj)))
      have hx1 : ∀ W2 : World, (Instr.indexAt 54 (.slice (some ⟨b1, o1, none⟩) ps.length c1) (.int .i64 j)).run Tryd.prog W2 = .ok (.pointer (some ⟨b1, o1 + j * 4, none⟩)) W2 := by
        intro W2
        have k0 : (0 : Int) ≤ (j : Int) := by omega
        have k1 : (j : Int) < (ps.length : Int) := by omega
        go_simp
      have hx2 : ∀ W2 : World, (Instr.indexAt 54 (.slice (some ⟨b2, o2, none⟩) ps.length c2) (.int .i64 j)).run Tryd.prog W2 = .ok (.pointer (some ⟨b2, o2 + j * 4, none⟩)) W2 := by
        intro W2
        have k0 : (0 : Int) ≤ (j : Int) := by omega
        have k1 : (j : Int) < (ps.length : Int) := by omega
        go_simp
      have hjl : j ≤ 1000000 := by have := H.out.2.2.2; omega
      clear F1 F2 hb hp hq
      go_wp2_with fail
      go_region_held3 (fun W => W.cell? ⟨b1, o1 + j * 4, none⟩ = some (.int .i64 u.kind) ∧ W.cell? ⟨b1, o1 + j * 4 + 1, none⟩ = some (.slice A3 u.data.length c3) ∧ W.cell? ⟨b1, o1 + j * 4 + 2, none⟩ = some (.int .i64 u.at_) ∧ W.cell? ⟨b1, o1 + j * 4 + 3, none⟩ = some (.int .i64 u.end_) ∧ W.cell? ⟨b2, o2 + j * 4, none⟩ = some (.int .i64 u.kind) ∧ W.cell? ⟨b2, o2 + j * 4 + 1, none⟩ = some (.slice A4 u.data.length c4) ∧ W.cell? ⟨b2, o2 + j * 4 + 2, none⟩ = some (.int .i64 u.at_) ∧ W.cell? ⟨b2, o2 + j * 4 + 3, none⟩ = some (.int .i64 u.end_))
        (first
          | exact ⟨p0, p1, p2, p3, q0, q1, q2, q3⟩
          | exact KW.out)
        (first
          | (go_at_call 29
             refine (unit_same u.kind u.at_ u.end_ _ _ u.data _ (by first | exact FF.out.1 | exact from_keep FF.out.1 (Below.refl _ _).drew) (by first | exact FF.out.2.1 | exact from_keep FF.out.2.1 (Below.refl _ _).drew)).mono ?_
             rintro e w2 ⟨rfl, hb2⟩
             have hbw : Below wr.heap.size wr w2 := by first | exact hb2 | exact ⟨hb2.os, hb2.tape, hb2.output, hb2.size, hb2.block⟩
             have KW := hid (And.intro ((cell_keep hbw p0)) (And.intro (cell_keep hbw p1) (And.intro (cell_keep hbw p2) (And.intro (cell_keep hbw p3) (And.intro (cell_keep hbw q0) (And.intro (cell_keep hbw q1) (And.intro (cell_keep hbw q2) (cell_keep hbw q3))))))))
             have BW := hid hbw
             clear hb2 hbw))
      all_goals
        clear hx1 hx2 p0 p1 p2 p3 q0 q1 q2 q3
        go_wp2_with fail
        have hj := FF.out.2.2.2
        go_roundg (gk - 1)
        case measure => omega
        case rel =>
          refine ⟨j + 1, by omega, by go_num, ?_⟩
          have h := FF.out.2.2.1.trans (BW.out.mono FF.out.2.2.1.size)
          first | exact h | exact h.drew
    · have hge : ps.length ≤ j := by omega
      have hn : decide ((j : Int) < (ps.length : Int)) = false := by simp; omega
      go_wp2_with fail
      go_ret
      exact ⟨rfl, hb⟩
end Go.Proofs.YtabklmkdneoaaaaDoor
