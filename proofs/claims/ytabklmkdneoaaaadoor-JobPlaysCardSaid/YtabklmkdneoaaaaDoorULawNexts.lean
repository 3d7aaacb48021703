/- UnitNexts: the walk. -/
import Derived.Test.YtabklmkdneoaaaaDoorUFirst
namespace Go.Proofs.YtabklmkdneoaaaaDoor
open Go.RowKit

theorem own_slice {w : World} {B size n : Nat} {t : TypeId} {v : Value} {xs : List Value} (h : w.ownsRow B t size v n xs) : ∃ A c, v = .slice A n c := by
  rcases h.2 with ⟨rfl, rfl⟩ | ⟨g, cap, cur, rfl, _⟩
  · exact ⟨none, 0, rfl⟩
  · exact ⟨_, _, rfl⟩
set_option maxHeartbeats 1000000 in
theorem unit_same (k a e : Int) (d1 d2 : Value) (bs : List UInt8) (w : World) (h1 : From w 1 d1 bs.length (bs.map byteV)) (h2 : From w 1 d2 bs.length (bs.map byteV)) :
    Calls Tryd.prog 29 #[.agg #[.int .i64 k, d1, .int .i64 a, .int .i64 e], .agg #[.int .i64 k, d2, .int .i64 a, .int .i64 e]] w fun y w' => y = .returned (.bool true) ∧ Below w.heap.size w w' := by
  have keep : ∀ (W : World) (x : Value), From w 1 x bs.length (bs.map byteV) → Below w.heap.size w W → From W 1 x bs.length (bs.map byteV) := by
    rintro W x ⟨A, c, g1, g2, g3⟩ hb
    refine ⟨A, c, g1, g2, fun h0 => ?_⟩
    obtain ⟨ad, g4, g5⟩ := g3 h0
    exact ⟨ad, g4, fun j u hu => (hb.cell (World.block_lt_of_cell? _ _ (g5 j u hu) |> fun h => h)).trans (g5 j u hu)⟩
  have K := hid keep
  obtain ⟨A1, c1, rfl, _⟩ := id h1
  obtain ⟨A2, c2, rfl, _⟩ := id h2
  have H := hid (And.intro h1 h2)
  have hb : Below w.heap.size w ((w.alloc (.cells #[.int .i64 k, .slice A1 bs.length c1, .int .i64 a, .int .i64 e] 35)).alloc (.cells #[.int .i64 k, .slice A2 bs.length c2, .int .i64 a, .int .i64 e] 35)) := ((Below.refl _ _).alloc (Nat.le_refl _) _).alloc (by simp) _
  have B := hid hb
  clear h1 h2 keep hb
  go_enter Tryd.func29, Tryd.ntmps29
  go_wp2_with fail
  refine (bytes_same (bs := bs) (by exact K.out _ _ H.out.1 B.out) (by exact K.out _ _ H.out.2 B.out)).mono ?_
  rintro y w2 ⟨rfl, rfl⟩
  go_wp2_with fail
  go_ret
  exact ⟨rfl, B.out⟩
theorem nextU_no {bs : List UInt8} {a : Int} {q : PathS} {c : Int} (h : nextU bs a = .no q c) : c ≠ 0 ∧ q.length ≤ 1000 := by
  have h2 := next_cases bs a
  rw [h] at h2
  rcases h2 with ⟨_, e⟩ | ⟨k, _, _, h2⟩
  · injection e with e1 e2
    subst e1 e2
    exact ⟨by decide, by simp⟩
  · rcases h2 with ⟨_, e⟩ | ⟨u, _, _, h2⟩
    · cases e
    · rcases h2 with ⟨_, e⟩ | ⟨x1, x2, x3, r, _, h2⟩
      · injection e with e1 e2
        subst e1 e2
        exact ⟨by decide, by simp⟩
      · rcases h2 with ⟨_, e⟩ | ⟨_, _, e⟩ | ⟨_, y0, y1, y2, y3, r', _, h2⟩
        · injection e with e1 e2
          subst e1 e2
          exact ⟨by decide, by simp⟩
        · injection e with e1 e2
          subst e1 e2
          exact ⟨by decide, by simp⟩
        · rcases h2 with ⟨_, e⟩ | ⟨_, e⟩
          · injection e with e1 e2
            subst e1 e2
            exact ⟨by decide, by simp⟩
          · cases e
/-- Two units and an error, laid down. -/
structure N4 (w : World) (ub vb eb : Nat) (cu cv ce : Array Value) (W : World) : Prop where
  et : ErrT W
  bel : Below w.heap.size w W
  u : Blk W ub 35 cu
  v : Blk W vb 35 cv
  e : Blk W eb 32 ce
theorem N4.step {w W W' : World} {ub vb eb : Nat} {cu cv ce : Array Value} (h : N4 w ub vb eb cu cv ce W) (hb : Below W.heap.size W W') : N4 w ub vb eb cu cv ce W' :=
  ⟨h.et.below hb h.et.lt, h.bel.trans (hb.mono h.bel.size), h.u.below hb h.u.lt, h.v.below hb h.v.lt, h.e.below hb h.e.lt⟩
theorem N4.mk3 {w w2 w3 : World} {cu cv ce : Array Value} (hg : ErrT w) (h2 : Below w.heap.size w w2) (h3 : Below (w2.alloc (.cells cu 35)).heap.size (w2.alloc (.cells cu 35)) w3) :
    N4 w w2.heap.size w3.heap.size (w3.heap.size + 1) cu cv ce ((w3.alloc (.cells cv 35)).alloc (.cells ce 32)) := by
  have hz := h3.size
  simp at hz
  have hb3 : Below w.heap.size w w3 := (h2.alloc h2.size _).trans (h3.mono (by have := h2.size; simp; omega))
  have hb4 : Below w.heap.size w ((w3.alloc (.cells cv 35)).alloc (.cells ce 32)) := (hb3.alloc hb3.size _).alloc (by have := hb3.size; simp; omega) _
  exact ⟨hg.below hb4 hg.lt, hb4, (((Blk.new w2 35 cu).below h3 (by simp)).alloc _).alloc _, (Blk.new _ _ _).alloc _, Blk.newAt' (n := w3.heap.size + 1) (w3.alloc (.cells cv 35)) _ _ (by simp)⟩
theorem from_keep {w W : World} {size n : Nat} {x : Value} {xs : List Value} (h : From w size x n xs) (hb : Below w.heap.size w W) : From W size x n xs := by
  obtain ⟨A, c, g1, g2, g3⟩ := h
  refine ⟨A, c, g1, g2, fun h0 => ?_⟩
  obtain ⟨ad, g4, g5⟩ := g3 h0
  exact ⟨ad, g4, fun j u hu => (hb.cell (World.block_lt_of_cell? _ _ (g5 j u hu))).trans (g5 j u hu)⟩
set_option maxRecDepth 100000 in
set_option maxHeartbeats 4000000 in
theorem unexts_walk (x : Value) (bs : List UInt8) (a : Int) (w : World) (hx : Byt w x bs) (_ : bs.length ≤ maxLen) (_ : (Lit.int .i64 a).wf = true) (hg : ErrT w) :
    Calls Tryd.prog 4 #[x, .int .i64 a] w fun e w' => e = .returned (.bool true) ∧ Below w.heap.size w w' := by
  obtain ⟨A, c, rfl, hc⟩ := hx.form
  have X := hid hx
  have HG := hid (And.intro hg hg.lt)
  clear hx hg
  by_cases hbig : 20000 < bs.length
  · have hb' : decide ((20000 : Int) < (bs.length : Int)) = true := by simp; omega
    clear hbig
    go_enter Tryd.func4, Tryd.ntmps4
    go_wp2_with fail
    refine (ufirst_any _ HG.out.1).mono ?_
    rintro e w1 ⟨rfl, h1⟩
    have B1 := hid h1
    clear h1
    go_wp2_with fail
    refine (ufirst_any _ (HG.out.1.below B1.out HG.out.2)).mono ?_
    rintro e w2 ⟨rfl, h1⟩
    have B2 := hid h1
    clear h1
    go_wp2_with fail
    go_ret
    exact ⟨rfl, B1.out.trans (B2.out.mono B1.out.size)⟩
  · have hb' : decide ((20000 : Int) < (bs.length : Int)) = false := by simp; omega
    have hl : bs.length ≤ 1000000 := by omega
    have HL := hid hl
    clear hbig hl
    go_enter Tryd.func4, Tryd.ntmps4
    go_wp2_with fail
    refine (ufirst_any _ HG.out.1).mono ?_
    rintro e w1 ⟨rfl, h1⟩
    have B1 := hid h1
    clear h1
    go_wp2_with fail
    have hn1 := hid (next_any (.slice A bs.length c) bs a w1 (X.out.below B1.out) HL.out)
    have hn2 := hid (fun W hW => rnext_any (.slice A bs.length c) bs a W (X.out.below hW) HL.out)
    unfold NextRes at hn1
    unfold RNextRes at hn2
    cases hN : nextU bs a with
    | no q cc =>
      obtain ⟨hcc, hql⟩ := nextU_no hN
      have HC := hid (And.intro hcc hql)
      rw [hN] at hn1 hn2
      clear hN hcc hql
      refine hn1.out.mono ?_
      rintro e w2 ⟨v, rfl, hv, h2⟩
      have B2 := hid (B1.out.trans (h2.mono B1.out.size))
      have V := hid hv
      clear h2 hv
      go_wp2_with fail
      refine (hn2.out _ (by exact B2.out.alloc B2.out.size _)).mono ?_
      rintro e w3 ⟨pv, rfl, hst, h3⟩
      obtain ⟨A9, c9, rfl, _⟩ := id hst
      have N := hid (N4.mk3 (cu := #[.int .i64 0, .slice none 0 0, .int .i64 0, .int .i64 0]) (cv := #[.int .i64 0, .slice none 0 0, .int .i64 0, .int .i64 0]) (ce := #[.int .i64 cc, .slice A9 q.length c9]) HG.out.1 B2.out h3)
      have V3 := hid ((V.out.below ((Below.refl _ _).alloc (Nat.le_refl _) (.cells #[.int .i64 0, .slice none 0 0, .int .i64 0, .int .i64 0] 35))).below h3)
      have ST := hid hst
      clear h3 hst
      go_wp2_with fail
      refine (ufirst_any _ (by exact N.out.et)).mono ?_
      rintro e w4 ⟨rfl, h4⟩
      have N2 := hid (N.out.step h4)
      have hbb : Below w3.heap.size w3 w4 := (((Below.refl _ _).alloc (Nat.le_refl _) (.cells #[.int .i64 0, .slice none 0 0, .int .i64 0, .int .i64 0] 35)).alloc (by simp) (.cells #[.int .i64 cc, .slice A9 q.length c9] 32)).trans (h4.mono (by simp; omega))
      have V4 := hid (And.intro (V3.out.below hbb) (ST.out.below hbb))
      have n0 := N2.out.u.cell 0
      have n1 := N2.out.u.cell 1
      have n2 := N2.out.u.cell 2
      have n3 := N2.out.u.cell 3
      have m0 := N2.out.v.cell 0
      have m1 := N2.out.v.cell 1
      have m2 := N2.out.v.cell 2
      have m3 := N2.out.v.cell 3
      simp at n0 n1 n2 n3 m0 m1 m2 m3
      clear h4 hbb N
      go_wp2_with fail
      refine (unit_same 0 0 0 (.slice none 0 0) (.slice none 0 0) [] _ ⟨none, 0, rfl, rfl, fun h => absurd rfl h⟩ ⟨none, 0, rfl, rfl, fun h => absurd rfl h⟩).mono ?_
      rintro e w5 ⟨rfl, h5⟩
      have N3 := hid (N2.out.step h5)
      have V5 := hid (And.intro (V4.out.1.below h5) (V4.out.2.below h5))
      have e0 := N3.out.e.cell 0
      have e1 := N3.out.e.cell 1
      simp at e0 e1
      clear h5 n0 n1 n2 n3 m0 m1 m2 m3
      go_wp2_with fail
      refine (err_path cc q v (.slice A9 q.length c9) _ (by exact V5.out.1) (by exact V5.out.2) (by exact N3.out.et) HC.out.1 HC.out.2).mono ?_
      rintro e w6 ⟨rfl, h6⟩
      have N6 := hid (N3.out.step h6)
      clear h6
      go_wp2_with fail
      go_ret
      exact ⟨rfl, N6.out.bel⟩
    | ok u =>
      rw [hN] at hn1 hn2
      clear hN
      refine hn1.out.mono ?_
      rintro e w2 ⟨d1, rfl, ho1, h2⟩
      obtain ⟨A1, c1, rfl⟩ := own_slice ho1
      have B2 := hid (B1.out.trans (h2.mono B1.out.size))
      have V := hid (From.of_own ho1)
      clear h2 ho1
      go_wp2_with fail
      refine (hn2.out _ (by exact B2.out.alloc B2.out.size _)).mono ?_
      rintro e w3 ⟨d2, rfl, ho2, h3⟩
      obtain ⟨A2, c2, rfl⟩ := own_slice ho2
      have N := hid (N4.mk3 (cu := #[.int .i64 u.kind, .slice A1 u.data.length c1, .int .i64 u.at_, .int .i64 u.end_]) (cv := #[.int .i64 u.kind, .slice A2 u.data.length c2, .int .i64 u.at_, .int .i64 u.end_]) (ce := #[.int .i64 0, .slice none 0 0]) HG.out.1 B2.out h3)
      have V3 := hid (from_keep (from_keep V.out ((Below.refl _ _).alloc (Nat.le_refl _) (.cells #[.int .i64 u.kind, .slice A1 u.data.length c1, .int .i64 u.at_, .int .i64 u.end_] 35))) h3)
      have ST := hid (From.of_own ho2)
      clear h3 ho2
      go_wp2_with fail
      refine (ufirst_any _ (by exact N.out.et)).mono ?_
      rintro e w4 ⟨rfl, h4⟩
      have N2 := hid (N.out.step h4)
      have hbb : Below w3.heap.size w3 w4 := (((Below.refl _ _).alloc (Nat.le_refl _) (.cells #[.int .i64 u.kind, .slice A2 u.data.length c2, .int .i64 u.at_, .int .i64 u.end_] 35)).alloc (by simp) (.cells #[.int .i64 0, .slice none 0 0] 32)).trans (h4.mono (by simp; omega))
      have V4 := hid (And.intro (from_keep V3.out hbb) (from_keep ST.out hbb))
      have n0 := N2.out.u.cell 0
      have n1 := N2.out.u.cell 1
      have n2 := N2.out.u.cell 2
      have n3 := N2.out.u.cell 3
      have m0 := N2.out.v.cell 0
      have m1 := N2.out.v.cell 1
      have m2 := N2.out.v.cell 2
      have m3 := N2.out.v.cell 3
      simp at n0 n1 n2 n3 m0 m1 m2 m3
      clear h4 hbb N
      go_wp2_with fail
      refine (unit_same u.kind u.at_ u.end_ (.slice A1 u.data.length c1) (.slice A2 u.data.length c2) u.data _ (by exact V4.out.1) (by exact V4.out.2)).mono ?_
      rintro e w5 ⟨rfl, h5⟩
      have N3 := hid (N2.out.step h5)
      have e0 := N3.out.e.cell 0
      have e1 := N3.out.e.cell 1
      simp at e0 e1
      clear h5 n0 n1 n2 n3 m0 m1 m2 m3
      go_wp2_with fail
      refine (err_same 0 _ (by exact N3.out.et)).mono ?_
      rintro e w6 ⟨rfl, h6⟩
      have N6 := hid (N3.out.step h6)
      clear h6
      go_wp2_with fail
      go_ret
      exact ⟨rfl, N6.out.bel⟩
end Go.Proofs.YtabklmkdneoaaaaDoor
