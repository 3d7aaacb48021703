/- ModelBack: the walk. -/
import Derived.Test.YtgdhbmpdicdbpaaTold
import Derived.Test.YtgdhbmpdicdbpaaLawWrites
namespace Go.Proofs.Ytgdhbmpdicdbpaa
open Go.RowKit

set_option maxRecDepth 100000 in
set_option maxHeartbeats 4000000 in
theorem back_walk (y : Value) (l : List Oper13) (v : Int) (b : Bool) (w : World) (hy : OpsAt w y l) (_ : l.length ≤ maxLen) (_ : (Lit.int .i64 v).wf = true) :
    Calls Try.prog 7 #[y, .int .i64 v, .bool b] w fun e w' => e = .returned (.bool true) ∧ Below w.heap.size w w' := by
  obtain ⟨i0, hi0, hz0, hz1, hz2⟩ := info_parts info_i64
  have IP := hid (And.intro hi0 (And.intro hz0 (And.intro hz1 hz2)))
  clear hi0 hz0 hz1 hz2
  obtain ⟨A2, c2, rfl, hy2⟩ := hy
  have Y := hid hy2
  clear hy2
  go_enter Try.func7, Try.ntmps7
  go_wp2_with fail
  refine (first_any _).mono ?_
  rintro e w1 ⟨rfl, h1⟩
  have B1 := hid h1
  clear h1
  go_wp2_with fail
  refine (new_wr _).mono ?_
  rintro e w3 ⟨rb, F, rfl, a3, f3, b3⟩
  have hT : ToldAt 3 (.slice none 0 0) 0 [] w.heap.size w (AtWr rb) F Wr.new w3 := by
    have hs1 := B1.out.size
    exact ⟨a3, World.ownsRow_nil _ _ _ _, fun k hk => by simp [Value.ownBlock] at hk, fun k hk => by have := f3 k hk; omega, B1.out.trans (b3.mono hs1), by have := b3.size; omega⟩
  have T := hid hT
  clear a3 f3 b3 hT
  go_wp2_with fail
  go_loopg [8, 9] l.length (fun k tv i wr => ∃ (j : Nat) (A : Option Addr) (c : Nat) (F : Nat → Prop), j + k = l.length ∧ j ≤ 2000 ∧ i = .int .i64 j ∧ tv = .slice A j c ∧ ToldAt 3 (.slice A j c) j (tolds l j) w.heap.size w (AtWr rb) F (ws l j) wr)
  case atStart => exact ⟨0, none, 0, F, by omega, by omega, rfl, rfl, T.out⟩
  case round =>
    clear T B1
    obtain ⟨j, A, c, F, hj, hj2, rfl, rfl, hT⟩ := hrel
    have T := hid (And.intro hT hj)
    clear hT hj
    by_cases hlt : j < l.length ∧ j < 2000
    · have j1 : decide ((j : Int) < (l.length : Int)) = true := by simp; omega
      have j2 : decide ((j : Int) < 2000) = true := by simp; omega
      have JJ := hid hlt
      clear hlt
      have hoj := oAt_some l j JJ.out.1
      obtain ⟨lb, off, rfl, hlb, hcs⟩ := Y.out (by intro e; rw [e] at hoj; simp at hoj)
      have hc := ops_cells T.out.1.bel hlb (hcs j _ hoj)
      obtain ⟨c0, c1, c2', c3⟩ := hc
      clear hcs hoj
      have k0 : (0 : Int) ≤ (j : Int) := by omega
      have k1 : (j : Int) < (l.length : Int) := by have := JJ.out.1; omega
      obtain ⟨n1, hn1, ok1⟩ := ws_ok l j
      have HA : Hid (∀ (W : World) (F : Nat → Prop), AtWr rb W F (ws l j) → Calls Try.prog 12 #[.iface 46 (.pointer (some ⟨rb, 0, none⟩)), .agg #[.int .i64 (oAt l j).kind, .int .i64 (oAt l j).c, .int .i64 (oAt l j).v, .bool (oAt l j).b]] W (Coded (AtWr rb) W F (tl l j, ws l (j + 1)))) := fun W F h =>
        asks_any rb _ (wr_coder rb) (wr_speaks rb) (oAt l j) (ws l j) W F n1 h ok1 (by omega)
      clear hn1 ok1
      generalize oAt l j = o at *
      go_wp2_with fail
      refine (HA.out _ F (by exact T.out.1.at_)).mono ?_
      rintro e w5 ⟨rfl, hm5⟩
      obtain ⟨F2, hT2⟩ := T.out.1.moved hm5
      have T2 := hid (hT2.read (wr_coder rb) ((Only.refl _ w5).alloc (.cells #[.int .i64 (tl l j)] 3)))
      have hb5 := hid (Blk.new w5 3 #[.int .i64 (tl l j)])
      clear hm5 hT2 c0 c1 c2' c3
      have jl : j ≤ 2000 := hj2
      go_wp2_with (at_builtin; refine wpList_append_form _ rfl _ _ _ rfl w.heap.size 3 i0 (.int .i64 0) 1 8 Try.underlying56 IP.out.1 IP.out.2.1 IP.out.2.2.1 IP.out.2.2.2 rfl (by omega) (.slice A j c) j (tolds l j) rfl T2.out.own (.slice (some ⟨w5.heap.size, 0, none⟩) 1 1) 1 [.int .i64 (tl l j)] rfl (from_blk hb5.out rfl) (by simp [Value.oneCell']) (.inr (by omega)) (by unfold maxLen; omega) (by omega) T2.out.size (j + 1) (tolds l (j + 1)) rfl (tolds_succ l j) ?_; intro g cap w6 hown hgrow hat hlt)
      have T3 := hid (T2.out.grown (wr_coder rb) hgrow hown hat)
      have KK := hid (And.intro T.out.2 JJ.out)
      clear hgrow hown hat hlt T2 T hb5
      have kk := KK.out
      go_roundg (gk - 1)
      case measure => omega
      case rel => exact ⟨j + 1, some ⟨g, 0, none⟩, cap, F2, by omega, by omega, by go_num, rfl, T3.out⟩
    · have hex : (l.length ≤ j ∨ (j < l.length ∧ 2000 ≤ j)) := by omega
      clear hlt
      have JL : Hid (j ≤ l.length ∧ j ≤ 2000) := by
        have := T.out.2
        exact ⟨by omega, hj2⟩
      rcases hex with hj1 | ⟨hj1, hj3⟩
      all_goals
        first
          | have q1 : decide ((j : Int) < (l.length : Int)) = false := by simp; omega
          | have q1 : decide ((j : Int) < (l.length : Int)) = true := by simp; omega
        have q2 : 2000 ≤ j → decide ((j : Int) < 2000) = false := by intro h; simp; omega
        first
          | have q3 := q2 hj3
          | skip
        clear q2
        obtain ⟨n1, hn1, ok1⟩ := ws_ok l j
        have OK1 := hid (And.intro ok1 (show n1 ≤ 1000000000 by omega))
        clear hn1 ok1
        go_wp2_with fail
        refine (at_end rb _ F (ws l j) n1 (by exact T.out.1.at_) OK1.out.1 OK1.out.2).mono ?_
        rintro e w12 ⟨g1, p1, rfl, o1, b1⟩
        have hbl : (ws l j).e.bytes.length ≤ 1000000000 := by
          obtain ⟨m, hm, ho⟩ := ws_ok l j
          have h1 := ho.e.len
          obtain ⟨z, hz⟩ := trim_zeros ((ws l j).e.out ++ four (ws l j).e.low)
          have h2 := congrArg List.length hz
          simp only [List.length_append, List.length_replicate, four_len] at h2
          have h3 : (ws l j).e.bytes.length = (trim ((ws l j).e.out ++ four (ws l j).e.low)).length := rfl
          have := JL.out.2
          omega
        have T2 := hid (T.out.1.read (wr_coder rb) (⟨b1.os, b1.tape, b1.output, b1.size, fun k hk _ => b1.block k hk⟩ : Only (fun _ => False) wr w12))
        have O1 := hid (From.of_own o1)
        clear o1 b1
        go_wp2_with fail
        refine (new_rd _ (ws l j).e.bytes _ O1.out hbl).mono ?_
        rintro e w13 ⟨db, G, rfl, a4, f4, b4⟩
        have hT : ToldTwo 3 (.slice A j c) j (tolds l j) w.heap.size w (AtRd db) (AtWr rb) G F (Rd.new (ws l j).e.bytes) (ws l j) w13 := by
          have o4 : Only (fun k => w12.heap.size ≤ k) w12 w13 := Only.of_below_up b4
          have hth := fun k hk => (wr_coder rb).there _ F _ k T2.out.at_ hk
          have hsz := T2.out.size
          exact ⟨⟨a4, (wr_coder rb).keep _ _ F _ _ T2.out.at_ o4 (fun k hk => by have := hth k hk; omega), fun k hk hg => by have := hth k hg; have := f4 k hk; omega, fun k hk => by have := f4 k hk; omega, T2.out.lB, T2.out.bel.trans (b4.mono hsz), by have := b4.size; omega⟩, row_far T2.out.own o4 (fun k hk => by have := (row_lt T2.out.own k hk).1; omega), fun k hk hG => by have := (row_lt T2.out.own k hk).1; have := f4 k hG; omega, T2.out.far⟩
        have T3 := hid hT
        clear a4 f4 b4 hT T2 hbl
        go_wp2_with fail
        go_loopg [11] j (fun k i wr => ∃ (n : Nat) (t : Rd) (G : Nat → Prop), n + k = j ∧ i = .int .i64 n ∧ ToldTwo 3 (.slice A j c) j (tolds l j) w.heap.size w (AtRd db) (AtWr rb) G F t (ws l j) wr ∧ Tr (ws l j).e (ws l n) t ∧ ∃ q, q ≤ 4 + 60 * n ∧ t.Ok q)
        case atStart => exact ⟨0, _, G, by omega, rfl, T3.out, back_new l j, 4, by omega, ok_rd_new _⟩
        case round =>
          clear T3 T q1 O1
          obtain ⟨n, t, G, hn, rfl, hT, htr, q, hq, hok⟩ := hrel
          by_cases hlt : n < j
          · have m1 : decide ((n : Int) < (j : Int)) = true := by simp; omega
            have hnl : n < l.length := by have := JL.out; omega
            have hoj := oAt_some l n hnl
            obtain ⟨lb, off, rfl, hlb, hcs⟩ := Y.out (by intro e; rw [e] at hoj; simp at hoj)
            have hc := ops_cells hT.two.bel hlb (hcs n _ hoj)
            obtain ⟨c0, c1, c2', c3⟩ := hc
            clear hcs hoj
            have k0 : (0 : Int) ≤ (n : Int) := by omega
            have k1 : (n : Int) < (l.length : Int) := by omega
            have k2 : (n : Int) < (j : Int) := by omega
            have hbk := back_step l j n hlt t htr v b (cut v 0 3)
            have hjl := JL.out.2
            have HA : Hid (∀ (W : World) (F : Nat → Prop), AtRd db W F t → Calls Try.prog 12 #[.iface 26 (.pointer (some ⟨db, 0, none⟩)), .agg #[.int .i64 (oAt l n).kind, .int .i64 (oAt l n).c, .int .i64 v, .bool b]] W (Coded (AtRd db) W F (rdM.asks ⟨(oAt l n).kind, (oAt l n).c, v, b⟩ (cut v 0 3) t))) := fun W F h =>
              asks_any db _ (rd_coder db) (rd_speaks db) ⟨(oAt l n).kind, (oAt l n).c, v, b⟩ t W F q h hok (by omega)
            obtain ⟨m, hm, hok'⟩ := (rd_coder 0).okAsks ⟨(oAt l n).kind, (oAt l n).c, v, b⟩ (cut v 0 3) t q hok
            generalize rdM.asks ⟨(oAt l n).kind, (oAt l n).c, v, b⟩ (cut v 0 3) t = ZA at *
            obtain ⟨r, t'⟩ := ZA
            obtain ⟨hr, htr'⟩ := hbk
            simp only at hr htr' hok'
            subst hr
            have NX := hid (And.intro htr' (And.intro hok' (And.intro hm (And.intro hq (And.intro hn hlt)))))
            generalize oAt l n = o at *
            have T := hid hT
            clear hT htr htr' hok hok' hm hq hn hlt hnl
            go_wp2_with fail
            have hth := fun k hk => (rd_coder db).there _ G _ k T.out.two.l hk
            have T1 : Hid (ToldTwo 3 (.slice A j c) j (tolds l j) w.heap.size w (AtRd db) (AtWr rb) G F t (ws l j) (wr.alloc (.cells #[.int .i64 o.kind, .int .i64 o.c, .int .i64 v, .bool b] 32))) :=
              T.out.keep (rd_coder db) (wr_coder rb) (S := fun _ => False) ((Only.refl _ wr).alloc _) (fun _ h => h.elim)
            have hbq : Blk (wr.alloc (.cells #[.int .i64 o.kind, .int .i64 o.c, .int .i64 v, .bool b] 32)) wr.heap.size 32 #[.int .i64 o.kind, .int .i64 o.c, .int .i64 v, .bool b] := Blk.new _ _ _
            have hnG : ¬ G wr.heap.size := fun h => by have := hth _ h; omega
            clear T hth c0 c1 c2' c3
            generalize wr.heap.size = ob at *
            generalize wr.alloc (.cells #[.int .i64 o.kind, .int .i64 o.c, .int .i64 v, .bool b] 32) = wq at *
            obtain ⟨tg, rfl⟩ : ∃ tg, A = some ⟨tg, 0, none⟩ := by
              rcases T1.out.own.2 with ⟨_, h⟩ | ⟨g', c', cur, h, _⟩
              · omega
              · injection h with h1 _ _
                exact ⟨g', h1⟩
            have ht0 : (tolds l j)[n]? = some (.int .i64 (tl l n)) := by
              unfold tolds
              have := NX.out.2.2.2.2.2
              simp [this]
            have e0 : wq.cell? ⟨tg, n, none⟩ = some (.int .i64 (tl l n)) := by
              have := T1.out.own.cellAt n (by have := NX.out.2.2.2.2.2; omega)
              rw [this]; exact ht0
            have d0 : wq.cell? ⟨ob, 0, none⟩ = some (.int .i64 o.kind) := by simpa using hbq.cell 0
            have d1 : wq.cell? ⟨ob, 1, none⟩ = some (.int .i64 o.c) := by simpa using hbq.cell 1
            have d2 : wq.cell? ⟨ob, 2, none⟩ = some (.int .i64 v) := by simpa using hbq.cell 2
            have d3 : wq.cell? ⟨ob, 3, none⟩ = some (.bool b) := by simpa using hbq.cell 3
            have T1d := hid (T1.out.read (rd_coder db) (wr_coder rb) ((Only.refl _ wq).drew))
            have BQ := hid (And.intro hbq (And.intro hnG ht0))
            clear hbq hnG ht0
            go_region_held3 (fun W => W.cell? ⟨tg, n, none⟩ = some (.int .i64 (tl l n)) ∧ W.cell? ⟨ob, 0, none⟩ = some (.int .i64 o.kind) ∧ W.cell? ⟨ob, 1, none⟩ = some (.int .i64 o.c) ∧ W.cell? ⟨ob, 2, none⟩ = some (.int .i64 v) ∧ W.cell? ⟨ob, 3, none⟩ = some (.bool b))
              (first
                | exact ⟨e0, d0, d1, d2, d3⟩
                | exact ⟨f0, g0, g1', g2, g3⟩)
              (first
                | (go_at_call 12
                   refine (HA.out _ G (by exact T1d.out.two.l)).mono ?_
                   rintro e w5 ⟨rfl, hm5⟩
                   obtain ⟨G2, hT2, o2, _⟩ := T1d.out.left (wr_coder rb) hm5
                   have hb5 := Blk.keep (S := G) (BQ.out.1.drew) o2 BQ.out.2.1
                   have f0 : w5.cell? ⟨tg, n, none⟩ = some (.int .i64 (tl l n)) := by
                     have := hT2.own.cellAt n (by have := NX.out.2.2.2.2.2; omega)
                     rw [this]; exact BQ.out.2.2
                   have g0 : w5.cell? ⟨ob, 0, none⟩ = some (.int .i64 o.kind) := by simpa using hb5.cell 0
                   have g1' : w5.cell? ⟨ob, 1, none⟩ = some (.int .i64 o.c) := by simpa using hb5.cell 1
                   have g2 : w5.cell? ⟨ob, 2, none⟩ = some (.int .i64 v) := by simpa using hb5.cell 2
                   have g3 : w5.cell? ⟨ob, 3, none⟩ = some (.bool b) := by simpa using hb5.cell 3
                   have T2 := hid hT2
                   clear hm5 hT2 o2 hb5))
            all_goals
              go_wp2_with fail
              have nx := NX.out
              go_roundg (gk - 1)
              case measure => omega
              case rel => exact ⟨n + 1, t', G2, by omega, by go_num, T2.out, nx.1, m, by omega, nx.2.1⟩
          · obtain rfl : n = j := by omega
            have hP : (ws l n).P = t.P := htr.P
            have hl1 : (ws l n).P.length = 64 := (ws_good l n).P.len
            have T := hid hT.two
            have PP := hid (And.intro hP hl1)
            clear hT htr hok hq hP hl1 hlt hn
            go_wp2_with fail
            go_loopg [13] 64 (fun k i wr2 => ∃ m : Nat, m + k = 64 ∧ i = .int .i64 m ∧ TwoAt w.heap.size w (AtRd db) (AtWr rb) G F t (ws l n) wr2)
            case atStart => exact ⟨0, rfl, rfl, T.out⟩
            case round =>
              clear T
              obtain ⟨m, hm, rfl, hT⟩ := hrel
              have T := hid hT
              clear hT
              by_cases hlt : m < 64
              · have m1 : decide ((m : Int) < 64) = true := by simp; omega
                have Td := hid (T.out.read (rd_coder db) (wr_coder rb) ((Only.refl _ wr).drew))
                have CH : Hid (∀ W, TwoAt w.heap.size w (AtRd db) (AtWr rb) G F t (ws l n) W → ∀ k, (k = db ∨ k = rb) → Calls Try.prog 16 #[.pointer (some ⟨k, 0, none⟩), .int .i64 m] W fun e w' => e = .returned (.int .i64 (chanceOf t.P m)) ∧ W = w') := by
                  rintro W hW k (rfl | rfl)
                  · exact rd_chance k _ G _ _ hW.l (by rw [← PP.out.1]; exact PP.out.2)
                  · rw [← PP.out.1]
                    exact wr_chance k _ F _ _ hW.r PP.out.2
                have MM := hid (And.intro hm hlt)
                have mle : m ≤ 64 := by omega
                clear hm hlt
                go_wp2_with fail
                go_region_held3 (fun _ => True)
                  (exact trivial)
                  (first
                    | (go_at_call 16
                       refine (CH.out _ (by first | exact Td.out | exact T.out) _ (by first | exact .inl rfl | exact .inr rfl)).mono ?_
                       rintro e w7 ⟨rfl, rfl⟩))
                all_goals
                  go_wp2_with fail
                  have mm := MM.out
                  go_roundg (gk - 1)
                  case measure => omega
                  case rel => exact ⟨m + 1, by omega, by go_num, T.out.read (rd_coder db) (wr_coder rb) (by first | exact (Only.refl _ _).drew | exact only_drewN' _ _ | exact Only.refl _ _)⟩
              · have m1 : decide ((m : Int) < 64) = false := by simp; omega
                go_wp2_with fail
                refine (first_any _).mono ?_
                rintro e w9 ⟨rfl, h9⟩
                have B9 := hid h9
                clear h9
                go_wp2_with fail
                go_ret
                exact ⟨rfl, T.out.bel.trans (B9.out.mono T.out.size)⟩
end Go.Proofs.Ytgdhbmpdicdbpaa
