/- kinref4.Split: the walk. -/
import Derived.Test.YtabklmkdneoaaaaDoorUSplit
namespace Go.Proofs.YtabklmkdneoaaaaDoor
open Go.RowKit

def codeU : Option (PathS × Int) → Int
  | none => 0
  | some (_, c) => c
theorem splitU_len (bs : List UInt8) : ∀ (k n : Nat), (splitU bs k n).1.length ≤ k := by
  intro k
  induction k with
  | zero => intro n; simp [splitU]
  | succ k ih =>
    intro n
    unfold splitU
    split
    · split
      · simp
      · have := ih; simp only [List.length_cons]; have := ih (‹UnitS›).end_; omega
    · simp
/-- What the document's Split answers. -/
def RSplitRes (bs : List UInt8) (w : World) (e : Ending) (w' : World) : Prop :=
  ∃ lv ps pv us er, e = .returned (.tuple #[lv, .agg #[.int .i64 (codeU er), pv]]) ∧ unitsOf bs = (us, er) ∧ ps.map Prod.fst = us ∧ OwnUnits w' w.heap.size lv ps ∧ Below w.heap.size w w' ∧
    match er with
    | none => pv = .slice none 0 0
    | some (q, _) => Steps w' pv q
theorem OwnUnits.only {w w' : World} {B : Nat} {lv : Value} {ps : UV} {S : Nat → Prop} (h : OwnUnits w B lv ps) (ho : Only S w w') (hs : ∀ k, B ≤ k → ¬ S k) : OwnUnits w' B lv ps :=
  ⟨own_keep2 h.row ho (fun k hk => hs k (h.row.lt k hk).1), fun p hp => own_keep2 (h.data p hp) ho (fun k hk => hs k ((h.data p hp).lt k hk).1)⟩
theorem OwnUnits.mono {w : World} {B B' : Nat} {lv : Value} {ps : UV} (h : OwnUnits w B lv ps) (hb : B' ≤ B) : OwnUnits w B' lv ps := ⟨own_mono h.row hb, fun p hp => own_mono (h.data p hp) hb⟩
theorem Steps.only_blk {w w' : World} {v : Value} {q : PathS} {g : Nat} {t : TypeId} {z : Int} (h : Steps w v q) (ho : Only (· = g) w w') (hb : Blk w g t #[.int .i64 z, .slice none 0 0]) : Steps w' v q := by
  obtain ⟨A, c, rfl, h2⟩ := h
  refine ⟨A, c, rfl, fun hne => ?_⟩
  obtain ⟨b, off, rfl, h4, h5⟩ := h2 hne
  have hbg : b ≠ g := by
    rintro rfl
    cases q with
    | nil => exact hne rfl
    | cons a r =>
      have h6 := (h5 0 a rfl).1
      rw [hb.cell] at h6
      match off, h6 with
      | 0, h6 => simp at h6
      | 1, h6 => simp at h6
      | n + 2, h6 => simp at h6
  refine ⟨b, off, rfl, Nat.lt_of_lt_of_le h4 ho.size, fun i a ha => ?_⟩
  obtain ⟨h6, h7⟩ := h5 i a ha
  have hk := ho.block b h4 hbg
  exact ⟨(World.cell?_of_block (w := w) (a := ⟨b, _, none⟩) hk).trans h6, (World.cell?_of_block (w := w) (a := ⟨b, _, none⟩) hk).trans h7⟩
set_option maxRecDepth 100000 in
set_option maxHeartbeats 4000000 in
theorem rsplit_any (x : Value) (bs : List UInt8) (w : World) (hx : Byt w x bs) (hl : bs.length ≤ 1000000) : Calls Tryd.prog 37 #[x] w (RSplitRes bs w) := by
  obtain ⟨i0, hi0, hz0, hz1, hz2⟩ := info_parts info_unit
  have IP := hid (And.intro hi0 (And.intro hz0 (And.intro hz1 hz2)))
  clear hi0 hz0 hz1 hz2
  obtain ⟨A, c, rfl, hc⟩ := hx.form
  have HL := hid hl
  have hb0 : Below w.heap.size w (w.alloc (.cells #[.int .i64 0, .slice none 0 0] 32)) := (Below.refl _ _).alloc (Nat.le_refl _) _
  obtain ⟨W0, hW0⟩ : ∃ W0, W0 = w.alloc (.cells #[.int .i64 0, .slice none 0 0] 32) := ⟨_, rfl⟩
  have hR0 : Blk W0 w.heap.size 32 #[.int .i64 0, .slice none 0 0] := by rw [hW0]; exact Blk.new _ _ _
  have X := hid (hx.below hb0)
  rw [← hW0] at X hb0
  have hs0 : W0.heap.size = w.heap.size + 1 := by rw [hW0]; simp
  have S0 := hid (And.intro hb0 (And.intro hR0 hs0))
  clear hx hc hl hb0 hR0 hs0
  go_enter Tryd.func37, Tryd.ntmps37
  go_wp2_with fail
  rw [← hW0]
  clear hW0
  go_loopg [4, 5] bs.length (fun k lv iv wr => ∃ (n : Nat) (ps : UV), iv = .int .i64 n ∧ SpRel W0 bs k n ps lv wr)
  case atStart => exact ⟨0, [], rfl, OwnUnits.nil _ _, Below.refl _ _, SplitAt.start bs⟩
  case round =>
    obtain ⟨n, ps, rfl, hR⟩ := hrel
    have R := hid hR
    have hlen := hR.at_.len
    clear hR
    by_cases hlt : n < bs.length
    · have hn : decide (n < bs.length) = true := by simp; omega
      have hn0 : n < bs.length := hlt
      have hpl : ps.length ≤ 1000000 := by have := HL.out; simp at hlen; omega
      have LT := hid (And.intro hlt hpl)
      clear hlen hlt hpl
      go_wp2_with fail
      have hn1 := hid (rnext_any (.slice A bs.length c) bs n _ (X.out.below R.out.bel) HL.out)
      unfold RNextRes at hn1
      cases hN : nextU bs n with
      | no q cc =>
        have NO := hid (And.intro hN (nextU_no hN))
        rw [hN] at hn1
        clear hN
        refine hn1.out.mono ?_
        rintro e w2 ⟨pv, rfl, hst, h2⟩
        obtain ⟨A9, c9, rfl, _⟩ := id hst
        have B2 := hid (And.intro hst h2)
        have h1 : (cc == 0) = false := by simpa using NO.out.2.1
        clear h2 hst hn1
        go_wp2_with fail
        refine (err_ok cc (.slice A9 q.length c9) _).mono ?_
        rintro e w4 ⟨rfl, h4⟩
        have hbb : Below w2.heap.size w2 w4 := (((Below.refl _ _).alloc (Nat.le_refl _) (.cells #[.int .i64 0, .slice none 0 0, .int .i64 0, .int .i64 0] 35)).alloc (by simp) (.cells #[.int .i64 cc, .slice A9 q.length c9] 32)).trans (h4.mono (by simp; omega))
        have hE4 : Blk w4 (w2.heap.size + 1) 32 #[.int .i64 cc, .slice A9 q.length c9] := (blk_new_at (w := w2.alloc (.cells #[.int .i64 0, .slice none 0 0, .int .i64 0, .int .i64 0] 35)) (by simp) _ _).below h4 (by simp)
        have hbel4 : Below W0.heap.size W0 w4 := (R.out.bel.trans (B2.out.2.mono R.out.bel.size)).trans (hbb.mono (by have := R.out.bel.size; have := B2.out.2.size; omega))
        have hR4 : Blk w4 w.heap.size 32 #[.int .i64 0, .slice none 0 0] := S0.out.2.1.below hbel4 S0.out.2.1.lt
        have hO4 := (R.out.own.below B2.out.2).below hbb
        have hS4 := B2.out.1.below hbb
        have Z4 := hid (And.intro hbel4 (And.intro hR4 (And.intro hO4 hS4)))
        have e0 := hE4.cell 0
        have e1 := hE4.cell 1
        have r0 := hR4.cell 0
        have r1 := hR4.cell 1
        have f0 := hR4.frozen 0
        have f1 := hR4.frozen 1
        simp at e0 e1 r0 r1
        have SK : Hid (∀ W3, Only (· = w.heap.size) w4 W3 → W3.cell? ⟨w2.heap.size + 1, 0, none⟩ = some (.int .i64 cc) ∧ W3.cell? ⟨w2.heap.size + 1, 1, none⟩ = some (.slice A9 q.length c9)) := fun W3 hOn => by
          have hk := hE4.keep hOn (by have := R.out.bel.size; have := B2.out.2.size; have := S0.out.2.2; show ¬ (_ = _); omega)
          exact ⟨by simpa using hk.cell 0, by simpa using hk.cell 1⟩
        have KK : Hid (((w4.setCell ⟨w.heap.size, 0, none⟩ (.int .i64 cc)).setCell ⟨w.heap.size, 1, none⟩ (.slice A9 q.length c9)).cell? ⟨w.heap.size, 0, none⟩ = some (.int .i64 cc) ∧ ((w4.setCell ⟨w.heap.size, 0, none⟩ (.int .i64 cc)).setCell ⟨w.heap.size, 1, none⟩ (.slice A9 q.length c9)).cell? ⟨w.heap.size, 1, none⟩ = some (.slice A9 q.length c9)) := by
          have hk := (hR4.put 0 (.int .i64 cc)).put 1 (.slice A9 q.length c9)
          exact ⟨by simpa using hk.cell 0, by simpa using hk.cell 1⟩
        have RE : Hid (∀ W3, Only (· = w.heap.size) w4 W3 → RSplitRes bs w (.returned (.tuple #[u4, .agg #[.int .i64 cc, .slice A9 q.length c9]])) W3) := fun W3 hOn => by
          have hs0 := S0.out.2.2
          have hbl : Below w.heap.size w w4 := S0.out.1.trans (hbel4.mono (by omega))
          refine ⟨_, ps, _, _, _, rfl, R.out.at_.no LT.out.1 NO.out.1, rfl, (hO4.only hOn (fun k hk e => by subst e; omega)).mono (by omega), ?_, ?_⟩
          · exact hbl.trans ⟨hOn.os, hOn.tape, hOn.output, hOn.size, fun k hk => hOn.block k (by have := hbl.size; omega) (by show ¬ (_ = _); omega)⟩
          · exact hS4.only_blk hOn hR4
        clear h4 hbb hE4 hbel4 hR4 hO4 hS4
        go_wp2_with fail
        go_region_held3 (fun W => W.cell? ⟨w2.heap.size + 1, 0, none⟩ = some (.int .i64 cc) ∧ W.cell? ⟨w2.heap.size + 1, 1, none⟩ = some (.slice A9 q.length c9))
          (first
            | exact SK.out _ (by repeat (first | (with_reducible refine Only.put ?_ (by rfl) _ _) | (with_reducible refine Only.drew ?_) | (with_reducible exact Only.refl _ _)))
            | exact ⟨e0, e1⟩) (fail)
        all_goals
          go_wp2_with fail
          obtain ⟨k0, k1⟩ := KK.out
          refine bodyPost_ret (v := .tuple #[u4, .agg #[.int .i64 cc, .slice A9 q.length c9]]) (by simp [results, Tryd.results37, go_sem, k0, k1]) rfl (RE.out _ (by repeat (first | (with_reducible refine Only.put ?_ (by rfl) _ _) | (with_reducible refine Only.drew ?_) | (with_reducible exact Only.refl _ _))))
      | ok u =>
        have OK := hid hN
        rw [hN] at hn1
        clear hN
        refine hn1.out.mono ?_
        rintro e w2 ⟨d, rfl, ho, h2⟩
        obtain ⟨A2, c2, rfl⟩ := own_slice ho
        have B2 := hid (And.intro ho h2)
        clear h2 ho hn1
        have HAT := hid (nextU_grows OK.out)
        have hpl := LT.out.2
        have hz := And.intro R.out.bel.size B2.out.2.size
        go_wp2_with fail
        refine (err_ok 0 (.slice none 0 0) _).mono ?_
        rintro e w4 ⟨rfl, h4⟩
        have hbb : Below w2.heap.size w2 w4 := (((Below.refl _ _).alloc (Nat.le_refl _) (.cells #[.int .i64 u.kind, .slice A2 u.data.length c2, .int .i64 u.at_, .int .i64 u.end_] 35)).alloc (by simp) (.cells #[.int .i64 0, .slice none 0 0] 32)).trans (h4.mono (by simp; omega))
        have hU4 : Blk w4 w2.heap.size 35 #[.int .i64 u.kind, .slice A2 u.data.length c2, .int .i64 u.at_, .int .i64 u.end_] := ((Blk.new w2 35 _).alloc (.cells #[.int .i64 0, .slice none 0 0] 32)).below h4 (by simp; omega)
        have hbw : Below wr.heap.size wr w4 := B2.out.2.trans (hbb.mono hz.2)
        have Z4 := hid (And.intro hbw (And.intro hU4 (And.intro (R.out.own.below hbw) (own_below (own_mono B2.out.1 hz.1) hbb))))
        have hzz := hbb.size
        have u0 := hU4.cell 0
        have u1 := hU4.cell 1
        have u2 := hU4.cell 2
        have u3 := hU4.cell 3
        simp at u0 u1 u2 u3
        clear h4 hbb hbw
        have hUlt := hU4.lt
        clear hU4
        go_wp2_with (first
          | (at_builtin
             (refine wpList_append_form _ rfl (.tmp 23) (.tmp 25) _ rfl W0.heap.size 35 i0 (.agg #[.int .i64 0, .slice none 0 0, .int .i64 0, .int .i64 0]) 4 48 Tryd.underlying54 IP.out.1 IP.out.2.1 IP.out.2.2.1 IP.out.2.2.2 rfl (by omega) u4 ps.length (unitCells ps) rfl (by exact Z4.out.2.2.1.row.alloc _) (.slice (some ⟨w4.heap.size, 0, none⟩) 1 1) 1 [.int .i64 u.kind, .slice A2 u.data.length c2, .int .i64 u.at_, .int .i64 u.end_] rfl (by exact blk_from4 (Blk.new w4 35 #[.int .i64 u.kind, .slice A2 u.data.length c2, .int .i64 u.at_, .int .i64 u.end_]) rfl) (by simp [Value.oneCell']) (.inr (by omega)) (by unfold maxLen; omega) (by omega) (by simp; omega) (ps.length + 1) (unitCells (ps ++ [(u, .slice A2 u.data.length c2)])) rfl (unitCells_snoc _ _ _) ?_)
             intro g cap w3 hown hgrow hat2 hlt1
             have hne : u4.ownBlock ≠ some w2.heap.size := fun e => by have h1 := ((own_below R.out.own.row B2.out.2).lt _ e).2; omega
             have hub3 : Blk w3 w2.heap.size 35 #[.int .i64 u.kind, .slice A2 u.data.length c2, .int .i64 u.at_, .int .i64 u.end_] := (Z4.out.2.1.alloc _).same (hgrow.block w2.heap.size (by simp; omega) (fun e => hne e.symm))
             have g3 := hub3.cell 3
             simp at g3
             have G3 := hid (And.intro hown hgrow)
             clear hne hub3 hown hgrow hat2))
        have hrel : SpRel W0 bs (gk - 1) u.end_ (ps ++ [(u, .slice A2 u.data.length c2)]) (.slice (some ⟨g, 0, none⟩) (ps.length + 1) cap) w3 := by
          have hb : Below W0.heap.size wr (w4.alloc (.cells #[.int .i64 u.kind, .slice A2 u.data.length c2, .int .i64 u.at_, .int .i64 u.end_] 35)) := (Z4.out.1.mono hz.1).alloc (by omega) _
          have hO := Z4.out.2.2.1.below ((Below.refl _ _).alloc (Nat.le_refl _) (.cells #[.int .i64 u.kind, .slice A2 u.data.length c2, .int .i64 u.at_, .int .i64 u.end_] 35))
          have hd := Z4.out.2.2.2.alloc (.cells #[.int .i64 u.kind, .slice A2 u.data.length c2, .int .i64 u.at_, .int .i64 u.end_] 35)
          refine ⟨hO.push hd G3.out.1 G3.out.2, ?_, ?_⟩
          · exact (R.out.bel.trans hb).grown G3.out.2 (by have := hb.size; have := R.out.bel.size; omega) (fun k hk => (R.out.own.row.lt k hk).1)
          · have := (R.out.at_.ok LT.out.1 OK.out).2
            simpa using this
        have hk0 := (R.out.at_.ok LT.out.1 OK.out).1
        have HREL := hid hrel
        clear hrel
        go_wp2_with fail
        go_roundg (gk - 1)
        case measure => omega
        case rel => exact ⟨u.end_, _, rfl, HREL.out⟩
    · have hn : decide ((n : Int) < (bs.length : Int)) = false := by simp; omega
      have hge : bs.length ≤ n := by omega
      clear hlt hlen
      have hR4 : Blk wr w.heap.size 32 #[.int .i64 0, .slice none 0 0] := S0.out.2.1.below R.out.bel S0.out.2.1.lt
      have r0 := hR4.cell 0
      have r1 := hR4.cell 1
      have f0 := hR4.frozen 0
      have f1 := hR4.frozen 1
      simp at r0 r1
      have KK : Hid (((wr.setCell ⟨w.heap.size, 0, none⟩ (.int .i64 0)).setCell ⟨w.heap.size, 1, none⟩ (.slice none 0 0)).cell? ⟨w.heap.size, 0, none⟩ = some (.int .i64 0) ∧ ((wr.setCell ⟨w.heap.size, 0, none⟩ (.int .i64 0)).setCell ⟨w.heap.size, 1, none⟩ (.slice none 0 0)).cell? ⟨w.heap.size, 1, none⟩ = some (.slice none 0 0)) := by
        have hk := (hR4.put 0 (.int .i64 0)).put 1 (.slice none 0 0)
        exact ⟨by simpa using hk.cell 0, by simpa using hk.cell 1⟩
      have RE : Hid (∀ W3, Only (· = w.heap.size) wr W3 → RSplitRes bs w (.returned (.tuple #[u4, .agg #[.int .i64 0, .slice none 0 0]])) W3) := fun W3 hOn => by
        have hs0 := S0.out.2.2
        have hbl : Below w.heap.size w wr := S0.out.1.trans (R.out.bel.mono (by omega))
        refine ⟨_, ps, _, _, _, rfl, R.out.at_.done hge, rfl, (R.out.own.only hOn (fun k hk e => by subst e; omega)).mono (by omega), ?_, rfl⟩
        exact hbl.trans ⟨hOn.os, hOn.tape, hOn.output, hOn.size, fun k hk => hOn.block k (by have := hbl.size; omega) (by show ¬ (_ = _); omega)⟩
      clear hR4
      go_wp2_with fail
      obtain ⟨k0, k1⟩ := KK.out
      refine bodyPost_ret (v := .tuple #[u4, .agg #[.int .i64 0, .slice none 0 0]]) (by simp [results, Tryd.results37, go_sem, k0, k1]) rfl (RE.out _ (by repeat (first | (with_reducible refine Only.put ?_ (by rfl) _ _) | (with_reducible refine Only.drew ?_) | (with_reducible exact Only.refl _ _))))
end Go.Proofs.YtabklmkdneoaaaaDoor
