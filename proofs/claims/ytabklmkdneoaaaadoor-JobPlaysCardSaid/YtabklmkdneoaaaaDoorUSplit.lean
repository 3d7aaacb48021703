/- unit.Split: the walk. -/
import Derived.Test.YtabklmkdneoaaaaDoorUnitsMem
namespace Go.Proofs.YtabklmkdneoaaaaDoor
open Go.RowKit

theorem blk_new_at {w : World} {n : Nat} (h : n = w.heap.size) (t : TypeId) (cs : Array Value) : Blk (w.alloc (.cells cs t)) n t cs := by subst h; exact Blk.new _ _ _
/-- What Split answers. -/
def SplitRes (bs : List UInt8) (w : World) (e : Ending) (w' : World) : Prop :=
  ∃ lv ps ev us er, e = .returned (.tuple #[lv, ev]) ∧ unitsOf bs = (us, er) ∧ ps.map Prod.fst = us ∧ OwnUnits w' w.heap.size lv ps ∧ Below w.heap.size w w' ∧
    match er with
    | none => ev = .nilIface
    | some (q, c) => ErrV w' c q ev ∧ c ≠ 0 ∧ q.length ≤ 1000
structure SpRel (w : World) (bs : List UInt8) (k n : Nat) (ps : UV) (lv : Value) (W : World) : Prop where
  own : OwnUnits W w.heap.size lv ps
  bel : Below w.heap.size w W
  at_ : SplitAt bs k n (ps.map Prod.fst)
set_option maxRecDepth 100000 in
set_option maxHeartbeats 4000000 in
theorem usplit_any (x : Value) (bs : List UInt8) (w : World) (hx : Byt w x bs) (hl : bs.length ≤ 1000000) : Calls Tryd.prog 36 #[x] w (SplitRes bs w) := by
  obtain ⟨i0, hi0, hz0, hz1, hz2⟩ := info_parts info_unit
  have IP := hid (And.intro hi0 (And.intro hz0 (And.intro hz1 hz2)))
  clear hi0 hz0 hz1 hz2
  obtain ⟨A, c, rfl, hc⟩ := hx.form
  have X := hid hx
  have HL := hid hl
  clear hx hc hl
  go_enter Tryd.func36, Tryd.ntmps36
  go_wp2_with fail
  go_loopg [4, 5] bs.length (fun k lv iv wr => ∃ (n : Nat) (ps : UV), iv = .int .i64 n ∧ SpRel w bs k n ps lv wr)
  case atStart => exact ⟨0, [], rfl, OwnUnits.nil _ _, Below.refl _ _, SplitAt.start bs⟩
  case round =>
    obtain ⟨n, ps, rfl, hR⟩ := hrel
    have R := hid hR
    have hlen := hR.at_.len
    clear hR
    by_cases hlt : n < bs.length
    · have hn : decide (n < bs.length) = true := by simp; omega
      have hn0 : n < bs.length := hlt
      have hpl : ps.length ≤ 1000000 := by have := HL.out; simp at hlen; omega
      have LT := hid (And.intro hlt hpl)
      clear hlen hlt hpl
      go_wp2_with fail
      have hn1 := hid (next_any (.slice A bs.length c) bs n _ (X.out.below R.out.bel) HL.out)
      unfold NextRes at hn1
      cases hN : nextU bs n with
      | no q cc =>
        have NO := hid (And.intro hN (nextU_no hN))
        rw [hN] at hn1
        clear hN
        refine hn1.out.mono ?_
        rintro e w2 ⟨v, rfl, hv, h2⟩
        obtain ⟨tv, xv, hform⟩ := hv.form
        subst hform
        have B2 := hid (And.intro hv h2)
        clear h2 hv hn1
        go_wp2_with fail
        go_ret2
        have hb := B2.out.2.trans (((Below.refl _ _).alloc (Nat.le_refl _) (.cells #[.int .i64 0, .slice none 0 0, .int .i64 0, .int .i64 0] 35)).mono B2.out.2.size)
        refine ⟨_, ps, _, _, _, rfl, R.out.at_.no LT.out.1 NO.out.1, rfl, R.out.own.below hb, R.out.bel.trans (hb.mono R.out.bel.size), ?_, NO.out.2.1, NO.out.2.2⟩
        exact B2.out.1.below ((Below.refl _ _).alloc (Nat.le_refl _) _)
      | ok u =>
        have OK := hid hN
        rw [hN] at hn1
        clear hN
        refine hn1.out.mono ?_
        rintro e w2 ⟨d, rfl, ho, h2⟩
        obtain ⟨A2, c2, rfl⟩ := own_slice ho
        have B2 := hid (And.intro ho h2)
        clear h2 ho hn1
        have HAT := hid (nextU_grows OK.out)
        have hpl := LT.out.2
        have hz := And.intro R.out.bel.size B2.out.2.size
        go_wp2_with (first
          | (at_builtin
             (refine wpList_append_form _ rfl (.tmp 22) (.tmp 24) _ rfl w.heap.size 35 i0 (.agg #[.int .i64 0, .slice none 0 0, .int .i64 0, .int .i64 0]) 4 48 Tryd.underlying54 IP.out.1 IP.out.2.1 IP.out.2.2.1 IP.out.2.2.2 rfl (by omega) u4 ps.length (unitCells ps) rfl (by exact ((own_below R.out.own.row B2.out.2).alloc _).alloc _) (.slice (some ⟨w2.heap.size + 1, 0, none⟩) 1 1) 1 [.int .i64 u.kind, .slice A2 u.data.length c2, .int .i64 u.at_, .int .i64 u.end_] rfl (by exact blk_from4 (blk_new_at (w := w2.alloc (.cells #[.int .i64 u.kind, .slice A2 u.data.length c2, .int .i64 u.at_, .int .i64 u.end_] 35)) (by simp) 35 #[.int .i64 u.kind, .slice A2 u.data.length c2, .int .i64 u.at_, .int .i64 u.end_]) rfl) (by simp [Value.oneCell']) (.inr (by omega)) (by unfold maxLen; omega) (by omega) (by simp; omega) (ps.length + 1) (unitCells (ps ++ [(u, .slice A2 u.data.length c2)])) rfl (unitCells_snoc _ _ _) ?_)
             intro g cap w3 hown hgrow hat2 hlt1
             have hub : Blk ((w2.alloc (.cells #[.int .i64 u.kind, .slice A2 u.data.length c2, .int .i64 u.at_, .int .i64 u.end_] 35)).alloc (.cells #[.int .i64 u.kind, .slice A2 u.data.length c2, .int .i64 u.at_, .int .i64 u.end_] 35)) w2.heap.size 35 #[.int .i64 u.kind, .slice A2 u.data.length c2, .int .i64 u.at_, .int .i64 u.end_] := (Blk.new w2 _ _).alloc _
             have hne : u4.ownBlock ≠ some w2.heap.size := fun e => by have h1 := ((own_below R.out.own.row B2.out.2).lt _ e).2; omega
             have hub3 : Blk w3 w2.heap.size 35 #[.int .i64 u.kind, .slice A2 u.data.length c2, .int .i64 u.at_, .int .i64 u.end_] := hub.same (hgrow.block w2.heap.size hub.lt (fun e => hne e.symm))
             have g3 := hub3.cell 3
             simp at g3
             have G3 := hid (And.intro hown hgrow)
             clear hub hne hub3 hown hgrow hat2))
        have hrel : SpRel w bs (gk - 1) u.end_ (ps ++ [(u, .slice A2 u.data.length c2)]) (.slice (some ⟨g, 0, none⟩) (ps.length + 1) cap) w3 := by
          have hb : Below w.heap.size wr ((w2.alloc (.cells #[.int .i64 u.kind, .slice A2 u.data.length c2, .int .i64 u.at_, .int .i64 u.end_] 35)).alloc (.cells #[.int .i64 u.kind, .slice A2 u.data.length c2, .int .i64 u.at_, .int .i64 u.end_] 35)) := ((B2.out.2.mono hz.1).alloc (by omega) _).alloc (by simp; omega) _
          have hO := (R.out.own.below B2.out.2).below (((Below.refl _ _).alloc (Nat.le_refl _) (.cells #[.int .i64 u.kind, .slice A2 u.data.length c2, .int .i64 u.at_, .int .i64 u.end_] 35)).alloc (by simp) (.cells #[.int .i64 u.kind, .slice A2 u.data.length c2, .int .i64 u.at_, .int .i64 u.end_] 35))
          have hd := (own_mono B2.out.1 hz.1).alloc (.cells #[.int .i64 u.kind, .slice A2 u.data.length c2, .int .i64 u.at_, .int .i64 u.end_] 35) |>.alloc (.cells #[.int .i64 u.kind, .slice A2 u.data.length c2, .int .i64 u.at_, .int .i64 u.end_] 35)
          refine ⟨hO.push hd G3.out.1 G3.out.2, ?_, ?_⟩
          · exact (R.out.bel.trans hb).grown G3.out.2 (by have := hb.size; have := R.out.bel.size; omega) (fun k hk => (R.out.own.row.lt k hk).1)
          · have := (R.out.at_.ok LT.out.1 OK.out).2
            simpa using this
        have hk0 := (R.out.at_.ok LT.out.1 OK.out).1
        have HREL := hid hrel
        clear hrel
        go_wp2_with fail
        go_roundg (gk - 1)
        case measure => omega
        case rel => exact ⟨u.end_, _, rfl, HREL.out⟩
    · have hn : decide ((n : Int) < (bs.length : Int)) = false := by simp; omega
      have hge : bs.length ≤ n := by omega
      clear hlt hlen
      go_wp2_with fail
      go_ret2
      exact ⟨_, ps, _, _, _, rfl, R.out.at_.done hge, rfl, R.out.own, R.out.bel, rfl⟩
end Go.Proofs.YtabklmkdneoaaaaDoor
