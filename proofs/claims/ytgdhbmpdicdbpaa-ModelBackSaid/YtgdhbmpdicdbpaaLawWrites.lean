/- ModelWrites: the walk. -/
import Derived.Test.YtgdhbmpdicdbpaaLawReads
import Derived.Test.YtgdhbmpdicdbpaaBytesEq
namespace Go.Proofs.Ytgdhbmpdicdbpaa
open Go.RowKit

/-- Two writers go alike, and are as they must be behind i operations. -/
structure BothW (s : Wr) (t : XWr) (i : Nat) : Prop where
  sim : WrSim s t
  ok1 : ∃ n, n ≤ 60 * i ∧ s.Ok n
  ok2 : ∃ n, n ≤ 4 + 60 * i ∧ t.Ok n
theorem BothW.step {s : Wr} {t : XWr} {i : Nat} (h : BothW s t i) (o : Oper13) :
    (wrM.asks o (cut o.v 0 3) s).1 = (xwM.asks o o.v t).1 ∧ BothW (wrM.asks o (cut o.v 0 3) s).2 (xwM.asks o o.v t).2 (i + 1) := by
  obtain ⟨h1, ⟨n, hn, h2⟩, ⟨m, hm, h3⟩⟩ := h
  have ha := wr_alike.asks h1 o
  obtain ⟨n', hn', k1⟩ := (wr_coder 0).okAsks o (cut o.v 0 3) s n h2
  obtain ⟨m', hm', k2⟩ := (xw_coder 0 0).okAsks o o.v t m h3
  exact ⟨ha.1, ha.2, ⟨n', by omega, k1⟩, ⟨m', by omega, k2⟩⟩
theorem ok_xw_new : XWr.new.Ok 4 := ⟨pok_first, by decide, by decide, by decide⟩
theorem bothW_new : BothW Wr.new XWr.new 0 :=
  ⟨⟨rfl, ⟨rfl, rfl⟩, pok_first, by decide, by decide, by decide⟩, ⟨0, by omega, ok_wr_new⟩, ⟨4, by omega, ok_xw_new⟩⟩
theorem BothW.bytes {s : Wr} {t : XWr} {i : Nat} (h : BothW s t i) : t.e.bytes = s.e.bytes := by
  show trim t.e.L = trim _
  rw [h.sim.e.L]
theorem at_end (b : Nat) (w : World) (F : Nat → Prop) (s : Wr) (lim : Nat) (h : AtWr b w F s) (ho : s.Ok lim) (hl : lim ≤ 1000000000) :
    Calls Try.prog 22 #[.pointer (some ⟨b, 0, none⟩)] w fun y w' => ∃ g cap, y = .returned (.slice (some ⟨g, 0, none⟩) s.e.bytes.length cap) ∧ w'.ownsRow w.heap.size 5 1 (.slice (some ⟨g, 0, none⟩) s.e.bytes.length cap) s.e.bytes.length (s.e.bytes.map byteV) ∧ Below w.heap.size w w' := by
  obtain ⟨eb, v, h1, _⟩ := h
  exact wr_end b eb v s w h1 ho.P.len (by have := ho.e.len; omega) ho.e.low
theorem xw_end (b eb : Nat) (w : World) (F : Nat → Prop) (s : XWr) (h : AtXw b eb w F s) :
    Calls Try.prog 23 #[.pointer (some ⟨eb, 0, none⟩)] w fun y w' => ∃ g cap, y = .returned (.slice (some ⟨g, 0, none⟩) s.e.bytes.length cap) ∧ w'.ownsRow w.heap.size 5 1 (.slice (some ⟨g, 0, none⟩) s.e.bytes.length cap) s.e.bytes.length (s.e.bytes.map byteV) ∧ Below w.heap.size w w' := by
  obtain ⟨v, h1, _⟩ := h
  exact renc_end eb v s.e w h1.enc

set_option maxRecDepth 100000 in
set_option maxHeartbeats 1600000 in
theorem writes_walk (y : Value) (ctx : Int) (l : List Oper13) (w : World) (hy : OpsAt w y l) :
    Calls Try.prog 6 #[y, .int .i64 ctx] w fun e w' => e = .returned (.bool true) ∧ Below w.heap.size w w' := by
  obtain ⟨A2, c2, rfl, hy2⟩ := hy
  have Y := hid hy2
  clear hy2
  go_enter Try.func6, Try.ntmps6
  go_wp2_with fail
  refine (first_any _).mono ?_
  rintro e w1 ⟨rfl, h1⟩
  have B1 := hid h1
  clear h1
  go_wp2_with fail
  refine (new_wr _).mono ?_
  rintro e w3 ⟨rb, F, rfl, a3, f3, b3⟩
  have B3 := hid (And.intro a3 (And.intro f3 b3))
  clear a3 f3 b3
  go_wp2_with fail
  refine (new_xw _).mono ?_
  rintro e w4 ⟨xb, xd, G, rfl, a4, f4, b4⟩
  have hT : TwoAt w.heap.size w (AtWr rb) (AtXw xb xd) F G Wr.new XWr.new w4 := by
    have hs1 := B1.out.size
    have hs3 := B3.out.2.2.size
    have hth := fun k hk => (wr_coder rb).there _ F _ k B3.out.1 hk
    exact ⟨(wr_coder rb).keep _ _ F (fun k => w3.heap.size ≤ k) _ B3.out.1 (Only.of_below_up b4) (fun k hk => by have := hth k hk; omega), a4, fun k hk hg => by have := hth k hk; have := f4 k hg; omega, fun k hk => by have := B3.out.2.1 k hk; omega, fun k hk => by have := f4 k hk; omega, (B1.out.trans (B3.out.2.2.mono hs1)).trans (b4.mono (by omega)), by have := b4.size; omega⟩
  have T := hid hT
  clear a4 f4 b4 hT
  go_wp2_with fail
  go_loopg [7] l.length (fun k i wr => ∃ (j : Nat) (s : Wr) (t : XWr), j + k = l.length ∧ j ≤ 2000 ∧ i = .int .i64 j ∧ Two w.heap.size w (AtWr rb) (AtXw xb xd) s t wr ∧ BothW s t j)
  case atStart => exact ⟨0, _, _, by omega, by omega, rfl, ⟨F, G, T.out⟩, bothW_new⟩
  case round =>
    clear T B3 B1
    obtain ⟨j, s, t, hj, hj2, rfl, ⟨F, G, hT⟩, hb⟩ := hrel
    have T := hid (And.intro hT (And.intro hb hj))
    clear hT hb hj
    by_cases hlt : j < l.length ∧ j < 2000
    · have j1 : decide ((j : Int) < (l.length : Int)) = true := by simp; omega
      have j2 : decide ((j : Int) < 2000) = true := by simp; omega
      have JJ := hid hlt
      clear hlt
      obtain ⟨o, hoj⟩ : ∃ o, l[j]? = some o := ⟨l[j]'JJ.out.1, List.getElem?_eq_getElem JJ.out.1⟩
      obtain ⟨lb, off, rfl, hlb, hcs⟩ := Y.out (by intro e; rw [e] at hoj; simp at hoj)
      have hc := ops_cells T.out.1.bel hlb (hcs j o hoj)
      obtain ⟨c0, c1, c2', c3⟩ := hc
      have C0 := hid (And.intro (hcs j o hoj) hlb)
      clear hcs hoj
      have k0 : (0 : Int) ≤ (j : Int) := by omega
      have k1 : (j : Int) < (l.length : Int) := by have := JJ.out.1; omega
      have hst := T.out.2.1.step o
      generalize hA : wrM.asks o (cut o.v 0 3) s = AA at *
      generalize hX : xwM.asks o o.v t = XA at *
      obtain ⟨r1, s'⟩ := AA
      obtain ⟨r2, t'⟩ := XA
      obtain ⟨hr, hb'⟩ := hst
      simp only at hr hb'
      subst hr
      have AX := hid (And.intro hA (And.intro hX hb'))
      clear hA hX hb'
      have T0 : Hid (TwoAt w.heap.size w (AtWr rb) (AtXw xb xd) F G s t wr.drew) := T.out.1.read (wr_coder rb) (xw_coder xb xd) ((Only.refl _ wr).drew)
      go_wp2_with fail
      go_cut [57] (fun v W => v = .bool false ∧ Two w.heap.size w (AtWr rb) (AtXw xb xd) s' t' W)
      case first =>
        obtain ⟨n1, hn1, ok1⟩ := T.out.2.1.ok1
        obtain ⟨n2, hn2, ok2⟩ := T.out.2.1.ok2
        have OK1 := hid (And.intro hn1 ok1)
        have OK2 := hid (And.intro hn2 ok2)
        have jl : j ≤ 2000 := hj2
        have HA : Hid (∀ (W : World) (F : Nat → Prop), AtWr rb W F s → Calls Try.prog 12 #[.iface 46 (.pointer (some ⟨rb, 0, none⟩)), .agg #[.int .i64 o.kind, .int .i64 o.c, .int .i64 o.v, .bool o.b]] W (Coded (AtWr rb) W F (r1, s'))) := fun W F h => by
          have := asks_any rb _ (wr_coder rb) (wr_speaks rb) o s W F n1 h ok1 (by omega)
          rw [AX.out.1] at this
          exact this
        have HW : Hid (∀ (W : World) (F : Nat → Prop), AtXw xb xd W F t → Calls Try.prog 13 #[.pointer (some ⟨xb, 0, none⟩), .agg #[.int .i64 o.kind, .int .i64 o.c, .int .i64 o.v, .bool o.b]] W (Coded (AtXw xb xd) W F (r1, t'))) := fun W F h => by
          have := wants_any xb (xw_coder xb xd) o t W F n2 h ok2 (by omega)
          rw [AX.out.2.1] at this
          exact this
        clear hn1 ok1 hn2 ok2
        have PP : Hid (t'.P = s'.P ∧ s'.P.length = 64 ∧ t'.P.length = 64) := ⟨AX.out.2.2.sim.P.symm, AX.out.2.2.sim.ok.len, by rw [← AX.out.2.2.sim.P]; exact AX.out.2.2.sim.ok.len⟩
        go_region_held3 (fun W => W.cell? ⟨lb, off + j * 4, none⟩ = some (.int .i64 o.kind) ∧ W.cell? ⟨lb, off + j * 4 + 1, none⟩ = some (.int .i64 o.c) ∧ W.cell? ⟨lb, off + j * 4 + 2, none⟩ = some (.int .i64 o.v) ∧ W.cell? ⟨lb, off + j * 4 + 3, none⟩ = some (.bool o.b))
          (first
            | exact ⟨c0, c1, c2', c3⟩
            | exact ⟨d0, d1, d2, d3⟩
            | exact ⟨e0, e1, e2, e3⟩)
          (first
            | (go_at_call 12
               refine (HA.out _ F (by exact T0.out.l)).mono ?_
               rintro e w5 ⟨rfl, hm⟩
               obtain ⟨F2, G2, hT2⟩ := T0.out.left (xw_coder xb xd) hm
               obtain ⟨d0, d1, d2, d3⟩ := ops_cells hT2.bel C0.out.2 C0.out.1
               have T2 := hid hT2
               clear hm hT2)
            | (go_at_call 13
               refine (HW.out _ G2 (by exact T2.out.r)).mono ?_
               rintro e w6 ⟨rfl, hm⟩
               obtain ⟨F3, G3, hT3⟩ := T2.out.right (wr_coder rb) hm
               obtain ⟨e0, e1, e2, e3⟩ := ops_cells hT3.bel C0.out.2 C0.out.1
               have T3 := hid hT3
               clear hm hT3)
            | (go_at_call 16
               refine (wr_chance rb _ F3 s' o.c (by exact T3.out.l) PP.out.2.1).mono ?_
               rintro e w7 ⟨rfl, rfl⟩)
            | (go_at_call 17
               refine (xw_chance xb xd _ G3 t' o.c (by exact T3.out.r) PP.out.2.2).mono ?_
               rintro e w8 ⟨rfl, rfl⟩
               rw [PP.out.1]))
        all_goals
          go_wp2_with fail
          go_meet
          exact ⟨rfl, _, _, T3.out⟩
      case rest =>
        obtain ⟨rfl, hT'⟩ := hcut
        have TT := hid hT'
        have KK := hid (And.intro T.out.2.2 JJ.out)
        clear hT' T T0 c0 c1 c2' c3
        go_wp2_with fail
        have kk := KK.out
        go_roundg (gk - 1)
        case measure => omega
        case rel => exact ⟨j + 1, s', t', by omega, by omega, by go_num, TT.out, AX.out.2.2⟩
    · have hex : (l.length ≤ j ∨ (j < l.length ∧ 2000 ≤ j)) := by omega
      have PP : Hid (s.P = t.P ∧ s.P.length = 64 ∧ t.P.length = 64) := ⟨T.out.2.1.sim.P, T.out.2.1.sim.ok.len, by rw [← T.out.2.1.sim.P]; exact T.out.2.1.sim.ok.len⟩
      obtain ⟨n1, hn1, ok1⟩ := T.out.2.1.ok1
      have OK1 := hid (And.intro ok1 (show n1 ≤ 1000000000 by omega))
      have EB := hid T.out.2.1.bytes
      clear hlt hn1 ok1
      rcases hex with hj1 | ⟨hj1, hj3⟩
      all_goals
        first
          | have q1 : decide ((j : Int) < (l.length : Int)) = false := by simp; omega
          | have q1 : decide ((j : Int) < (l.length : Int)) = true := by simp; omega
        have q2 : 2000 ≤ j → decide ((j : Int) < 2000) = false := by intro h; simp; omega
        first
          | have q3 := q2 hj3
          | skip
        clear q2
        go_wp2_with fail
        go_loopg [8] 67 (fun k i wr2 => ∃ j : Nat, j + k = 67 ∧ i = .int .i64 ((j : Int) - 1) ∧ wr2 = wr)
        case atStart => exact ⟨0, rfl, rfl, rfl⟩
        case round =>
          obtain ⟨j', hj', rfl, rfl⟩ := hrel
          by_cases hlt : j' < 67
          · have m1 : decide (((j' : Int) - 1) < 66) = true := by simp; omega
            go_wp2_with fail
            refine (wr_chance rb _ F s _ T.out.1.l PP.out.2.1).mono ?_
            rintro e w9 ⟨rfl, rfl⟩
            go_wp2_with fail
            refine (xw_chance xb xd _ G t _ T.out.1.r PP.out.2.2).mono ?_
            rintro e w9 ⟨rfl, rfl⟩
            rw [PP.out.1]
            go_wp2_with fail
            go_roundg (gk - 1)
            case measure => omega
            case rel => exact ⟨j' + 1, by omega, by go_num, rfl⟩
          · have m1 : decide (((j' : Int) - 1) < 66) = false := by simp; omega
            have hE := xw_E T.out.1.r
            have T5 : Hid (TwoAt w.heap.size w (AtWr rb) (AtXw xb xd) F G s t wr.drew) := T.out.1.read (wr_coder rb) (xw_coder xb xd) ((Only.refl _ wr).drew)
            go_wp2_with fail
            go_region_held3 (fun W => W.cell? ⟨xb, 1, none⟩ = some (.pointer (some ⟨xd, 0, none⟩)))
              (first
                | exact hE
                | exact hE6
                | exact hE7
                | exact hE8)
              (first
                | (go_at_call 8
                   refine (first_any _).mono ?_
                   rintro e w9 ⟨rfl, h9⟩
                   have T6 := hid (T5.out.below (wr_coder rb) (xw_coder xb xd) h9)
                   have hE6 := xw_E T6.out.r
                   clear h9)
                | (go_at_call 16
                   refine (wr_chance rb _ F s _ (by exact T6.out.l) PP.out.2.1).mono ?_
                   rintro e w10 ⟨rfl, rfl⟩)
                | (go_at_call 17
                   refine (xw_chance xb xd _ G t _ (by exact T6.out.r) PP.out.2.2).mono ?_
                   rintro e w11 ⟨rfl, rfl⟩
                   rw [← PP.out.1])
                | (go_at_call 22
                   refine (at_end rb _ F s n1 (by exact T6.out.l) OK1.out.1 OK1.out.2).mono ?_
                   rintro e w12 ⟨g1, p1, rfl, o1, b1⟩
                   have T7 := hid (T6.out.below (wr_coder rb) (xw_coder xb xd) b1)
                   have O1 := hid (From.of_own o1)
                   have hE7 := xw_E T7.out.r
                   clear o1 b1)
                | (go_at_call 23
                   refine (xw_end xb xd _ G t (by exact T7.out.r)).mono ?_
                   rintro e w13 ⟨g2, p2, rfl, o2, b2⟩
                   rw [EB.out] at o2
                   rw [EB.out]
                   have T8 := hid (T7.out.below (wr_coder rb) (xw_coder xb xd) b2)
                   have hE8 := xw_E T8.out.r
                   have O2 := hid (From.of_own o2)
                   have O3 := hid (From.below O1.out b2)
                   clear o2 b2)
                | (go_at_call 21
                   refine (bytes_same (by exact O3.out) (by exact O2.out)).mono ?_
                   rintro e w14 ⟨rfl, rfl⟩))
            all_goals
              go_wp2_with fail
              go_ret
              exact ⟨rfl, T8.out.bel⟩
theorem writes_law (y : Value) (l : List Oper13) (ctx : Int) (w : World) (hy : OpsAt w y l) (_ : l.length ≤ maxLen) (_ : (Lit.int .i64 ctx).wf = true) :
    Calls Try.prog 6 #[y, .int .i64 ctx] w fun e w' => e = .returned (.bool true) ∧ Below w.heap.size w w' := writes_walk y ctx l w hy
end Go.Proofs.Ytgdhbmpdicdbpaa
