/- ModelBounds: the walk. -/
import Derived.Test.YtgdhbmpdicdbpaaAskLaws
namespace Go.Proofs.Ytgdhbmpdicdbpaa
open Go.RowKit

/-- What one round of ModelBounds comes to. -/
structure BoundsAt (s : Rd) (t : Wr) (i : Nat) : Prop where
  ok1 : ∃ n, n ≤ 4 + 60 * i ∧ s.Ok n
  ok2 : ∃ n, n ≤ 60 * i ∧ t.Ok n
theorem BoundsAt.len2 {s : Rd} {t : Wr} {i : Nat} (h : BoundsAt s t i) : POk t.P := by obtain ⟨n, _, ho⟩ := h.ok2; exact ho.P
theorem BoundsAt.step {s : Rd} {t : Wr} {i : Nat} (h : BoundsAt s t i) (o : Oper13) : BoundsAt (rdM.asks o (cut o.v 0 3) s).2 (wrM.asks o (cut o.v 0 3) t).2 (i + 1) := by
  obtain ⟨⟨n, hn, h2⟩, ⟨k, hk', h3⟩⟩ := h
  obtain ⟨n', hn', k1⟩ := (rd_coder 0).okAsks o (cut o.v 0 3) s n h2
  obtain ⟨m', hm', k2⟩ := (wr_coder 0).okAsks o (cut o.v 0 3) t k h3
  exact ⟨⟨n', by omega, k1⟩, ⟨m', by omega, k2⟩⟩

set_option maxRecDepth 100000 in
set_option maxHeartbeats 8000000 in
theorem bounds_walk (x y : Value) (bs : List UInt8) (l : List Oper13) (w : World) (hx : BysAt w x bs) (_ : bs.length ≤ maxLen) (hy : OpsAt w y l) (_ : l.length ≤ maxLen) :
    Calls Try.prog 4 #[x, y] w fun e w' => e = .returned (.bool true) ∧ Below w.heap.size w w' := by
  obtain ⟨A, c, rfl⟩ := from_form hx
  obtain ⟨A2, c2, rfl, hy2⟩ := hy
  have Y := hid hy2
  have X := hid hx
  clear hx hy2
  by_cases hbig : 20000 < bs.length
  · have hb' : (20000 : Int) < (bs.length : Int) := by omega
    clear hbig
    go_enter Try.func4, Try.ntmps4
    go_wp2_with fail
    refine (first_any _).mono ?_
    rintro e w1 ⟨rfl, h1⟩
    have B1 := hid h1
    clear h1
    go_wp2_with fail
    refine (first_any _).mono ?_
    rintro e w2 ⟨rfl, h1⟩
    have B2 := hid h1
    clear h1
    go_wp2_with fail
    go_ret
    exact ⟨rfl, B1.out.trans (B2.out.mono B1.out.size)⟩
  · have hb' : decide ((20000 : Int) < (bs.length : Int)) = false := by simp; omega
    go_enter Try.func4, Try.ntmps4
    go_wp2_with fail
    refine (first_any _).mono ?_
    rintro e w1 ⟨rfl, h1⟩
    have B1 := hid h1
    clear h1
    go_wp2_with fail
    refine (new_rd _ bs _ (X.out.below B1.out) (by omega)).mono ?_
    rintro e w3 ⟨rb, F, rfl, a3, f3, b3⟩
    have B3 := hid (And.intro a3 (And.intro f3 b3))
    clear a3 f3 b3
    go_wp2_with fail
    refine (new_wr _).mono ?_
    rintro e w4 ⟨xb, G, rfl, a4, f4, b4⟩
    have hT : TwoAt w.heap.size w (AtRd rb) (AtWr xb) F G (Rd.new bs) Wr.new w4 := by
      have hs1 := B1.out.size
      have hs3 := B3.out.2.2.size
      have hth := fun k hk => (rd_coder rb).there _ F _ k B3.out.1 hk
      exact ⟨(rd_coder rb).keep _ _ F (fun k => w3.heap.size ≤ k) _ B3.out.1 (Only.of_below_up b4) (fun k hk => by have := hth k hk; omega), a4, fun k hk hg => by have := hth k hk; have := f4 k hg; omega, fun k hk => by have := B3.out.2.1 k hk; omega, fun k hk => by have := f4 k hk; omega, (B1.out.trans (B3.out.2.2.mono hs1)).trans (b4.mono (by omega)), by have := b4.size; omega⟩
    have T := hid hT
    clear a4 f4 b4 hT
    go_wp2_with fail
    go_loopg [7] l.length (fun k i wr => ∃ (j : Nat) (s : Rd) (t : Wr), j + k = l.length ∧ j ≤ 2000 ∧ i = .int .i64 j ∧ Two w.heap.size w (AtRd rb) (AtWr xb) s t wr ∧ BoundsAt s t j)
    case atStart => exact ⟨0, _, _, by omega, by omega, rfl, ⟨F, G, T.out⟩, ⟨⟨4, by omega, ok_rd_new bs⟩, ⟨0, by omega, ok_wr_new⟩⟩⟩
    case round =>
      clear T B3 B1
      obtain ⟨j, s, t, hj, hj2, rfl, ⟨F, G, hT⟩, hb⟩ := hrel
      have T := hid (And.intro hT (And.intro hb hj))
      clear hT hb hj
      by_cases hlt : j < l.length ∧ j < 2000
      · have j1 : decide ((j : Int) < (l.length : Int)) = true := by simp; omega
        have j2 : decide ((j : Int) < 2000) = true := by simp; omega
        have JJ := hid hlt
        clear hlt
        obtain ⟨o, hoj⟩ : ∃ o, l[j]? = some o := ⟨l[j]'JJ.out.1, List.getElem?_eq_getElem JJ.out.1⟩
        obtain ⟨lb, off, rfl, hlb, hcs⟩ := Y.out (by intro e; rw [e] at hoj; simp at hoj)
        have hc := ops_cells T.out.1.bel hlb (hcs j o hoj)
        obtain ⟨c0, c1, c2', c3⟩ := hc
        clear hcs hoj
        have k0 : (0 : Int) ≤ (j : Int) := by omega
        have k1 : (j : Int) < (l.length : Int) := by have := JJ.out.1; omega
        have KK := hid (And.intro T.out.2.2 JJ.out)
        obtain ⟨n1, hn1, ok1⟩ := T.out.2.1.ok1
        obtain ⟨n2, hn2, ok2⟩ := T.out.2.1.ok2
        have jl : j ≤ 2000 := hj2
        have HA : Hid (∀ (W : World) (F : Nat → Prop), AtRd rb W F s → Calls Try.prog 12 #[.iface 26 (.pointer (some ⟨rb, 0, none⟩)), .agg #[.int .i64 o.kind, .int .i64 o.c, .int .i64 o.v, .bool o.b]] W (Coded (AtRd rb) W F (rdM.asks o (cut o.v 0 3) s))) := fun W F h =>
          asks_any rb _ (rd_coder rb) (rd_speaks rb) o s W F n1 h ok1 (by omega)
        have HW : Hid (∀ (W : World) (F : Nat → Prop), AtWr xb W F t → Calls Try.prog 12 #[.iface 46 (.pointer (some ⟨xb, 0, none⟩)), .agg #[.int .i64 o.kind, .int .i64 o.c, .int .i64 o.v, .bool o.b]] W (Coded (AtWr xb) W F (wrM.asks o (cut o.v 0 3) t))) := fun W F h =>
          asks_any xb _ (wr_coder xb) (wr_speaks xb) o t W F n2 h ok2 (by omega)
        have hst := hid (T.out.2.1.step o)
        have hab := hid (Mach.asks_bounds (M := rdM) o (cut o.v 0 3) s)
        have hwt := hid (wr_asks_true o t)
        have hwc := hid (wr_asks_chance o t ok2.P)
        have hp0 := hid ok2.P.len
        have hp1 := hid hst.out.len2.len
        have hfl := fun w => flag_any o.b w
        have FL := hid hfl
        clear hn1 ok1 hn2 ok2 hfl
        generalize hX : rdM.asks o (cut o.v 0 3) s = XA at *
        generalize hZ : wrM.asks o (cut o.v 0 3) t = ZA at *
        obtain ⟨r1, s'⟩ := XA
        obtain ⟨r2, t'⟩ := ZA
        clear hX hZ
        go_wp2_with fail
        have T1 : Hid (ThreeAt wr.heap.size 32 #[.int .i64 o.kind, .int .i64 o.c, .int .i64 o.v, .bool o.b] w.heap.size w (AtRd rb) (AtWr xb) F G s t (wr.alloc (.cells #[.int .i64 o.kind, .int .i64 o.c, .int .i64 o.v, .bool o.b] 32))) :=
          ⟨T.out.1.read (rd_coder rb) (wr_coder xb) ((Only.refl _ wr).alloc _), Blk.new _ _ _, fun h => by have := (rd_coder rb).there _ _ _ _ T.out.1.l h; omega, fun h => by have := (wr_coder xb).there _ _ _ _ T.out.1.r h; omega⟩
        clear c0 c1 c2' c3 T
        generalize wr.heap.size = ob at *
        generalize wr.alloc (.cells #[.int .i64 o.kind, .int .i64 o.c, .int .i64 o.v, .bool o.b] 32) = wq at *
        refine (HA.out _ F (by exact T1.out.two.l)).mono ?_
        rintro e w5 ⟨rfl, hm5⟩
        obtain ⟨F2, G2, hT2⟩ := T1.out.left (wr_coder xb) hm5
        have T2 := hid hT2
        have T2d := hid (hT2.read (rd_coder rb) (wr_coder xb) ((Only.refl _ w5).drew))
        have d1 : w5.cell? ⟨ob, 1, none⟩ = some (.int .i64 o.c) := by simpa using hT2.blk.cell 1
        clear hm5 hT2 T1 hlb
        go_wp2_with fail
        go_cut [10] (fun v W => v = .int .i64 (chanceOf t.P o.c) ∧ Three ob 32 #[.int .i64 o.kind, .int .i64 o.c, .int .i64 o.v, .bool o.b] w.heap.size w (AtRd rb) (AtWr xb) s' t W)
        case first =>
          go_region_held3 (fun W => W.cell? ⟨ob, 1, none⟩ = some (.int .i64 o.c))
            (exact d1)
            (first
              | (go_at_call 16
                 refine (wr_chance xb _ G2 t o.c (by first | exact T2d.out.two.r | exact T2.out.two.r) hp0.out).mono ?_
                 rintro e w7 ⟨rfl, rfl⟩))
          all_goals
            go_wp2_with fail
            go_meet
            exact ⟨rfl, _, _, T2.out.read (rd_coder rb) (wr_coder xb) (by first | exact only_drewN' _ _ | exact (Only.refl _ _).drew | exact Only.refl _ _)⟩
        case rest =>
          obtain ⟨rfl, F3, G3, hT3⟩ := hcut
          have d0 : wc.cell? ⟨ob, 0, none⟩ = some (.int .i64 o.kind) := by simpa using hT3.blk.cell 0
          have d1 : wc.cell? ⟨ob, 1, none⟩ = some (.int .i64 o.c) := by simpa using hT3.blk.cell 1
          have d2 : wc.cell? ⟨ob, 2, none⟩ = some (.int .i64 o.v) := by simpa using hT3.blk.cell 2
          have d3 : wc.cell? ⟨ob, 3, none⟩ = some (.bool o.b) := by simpa using hT3.blk.cell 3
          have T3 := hid hT3
          clear hT3 T2 T2d
          go_wp2_with fail
          refine (HW.out _ G3 (by exact T3.out.two.r)).mono ?_
          rintro e w8 ⟨rfl, hm8⟩
          obtain ⟨F4, G4, hT4⟩ := T3.out.right (rd_coder rb) hm8
          have T4 := hid hT4
          have T4d := hid (hT4.read (rd_coder rb) (wr_coder xb) ((Only.refl _ w8).drew))
          clear d0 d1 d2 d3
          have d1 : w8.cell? ⟨ob, 1, none⟩ = some (.int .i64 o.c) := by simpa using hT4.blk.cell 1
          clear hm8 hT4 T3
          go_wp2_with fail
          go_cut [12] (fun v W => v = .int .i64 (chanceOf t'.P o.c) ∧ Three ob 32 #[.int .i64 o.kind, .int .i64 o.c, .int .i64 o.v, .bool o.b] w.heap.size w (AtRd rb) (AtWr xb) s' t' W)
          case first =>
            go_region_held3 (fun W => W.cell? ⟨ob, 1, none⟩ = some (.int .i64 o.c))
              (exact d1)
              (first
                | (go_at_call 16
                   refine (wr_chance xb _ G4 t' o.c (by first | exact T4d.out.two.r | exact T4.out.two.r) hp1.out).mono ?_
                   rintro e w7 ⟨rfl, rfl⟩))
            all_goals
              go_wp2_with fail
              go_meet
              exact ⟨rfl, _, _, T4.out.read (rd_coder rb) (wr_coder xb) (by first | exact only_drewN' _ _ | exact (Only.refl _ _).drew | exact Only.refl _ _)⟩
          case rest =>
            obtain ⟨rfl, F5, G5, hT5⟩ := hcut
            have d0 : wc.cell? ⟨ob, 0, none⟩ = some (.int .i64 o.kind) := by simpa using hT5.blk.cell 0
            have d1 : wc.cell? ⟨ob, 1, none⟩ = some (.int .i64 o.c) := by simpa using hT5.blk.cell 1
            have d2 : wc.cell? ⟨ob, 2, none⟩ = some (.int .i64 o.v) := by simpa using hT5.blk.cell 2
            have d3 : wc.cell? ⟨ob, 3, none⟩ = some (.bool o.b) := by simpa using hT5.blk.cell 3
            have T5 := hid hT5
            clear hT5 T4 T4d
            generalize chanceOf t.P o.c = ca at *
            generalize chanceOf t'.P o.c = cb at *
            obtain ⟨kd, oc, ov, ou⟩ := o
            simp only at hab hwt hwc FL d0 d1 d2 d3
            have hcase : ((kd = 0 ∨ kd = 1) ∧ 0 ≤ r1 ∧ r1 ≤ 1 ∧ r2 = flagI ou) ∨ ((kd = 2 ∨ kd = 3) ∧ 0 ≤ r1 ∧ r1 ≤ 3 ∧ r2 = min (max ov 0) 3) ∨ ((kd < 0 ∨ 3 < kd) ∧ -15 ≤ r1 ∧ r1 ≤ 15 ∧ r2 = min (max ov (-15)) 15) := by
              obtain ⟨x1, x2, x3⟩ := hab.out
              obtain ⟨y1, y2, y3⟩ := hwt.out
              by_cases a1 : kd = 0 ∨ kd = 1
              · exact .inl ⟨a1, (x1 a1).1, (x1 a1).2, y1 a1⟩
              · by_cases a2 : kd = 2 ∨ kd = 3
                · exact .inr (.inl ⟨a2, (x2 a2).1, (x2 a2).2, y2 a2⟩)
                · have a3 : kd < 0 ∨ 3 < kd := by omega
                  exact .inr (.inr ⟨a3, (x3 a3).1, (x3 a3).2, y3 a3⟩)
            clear hab hwt HA HW
            rcases hcase with ⟨hk, b0, b1, rfl⟩ | ⟨hk, b0, b1, rfl⟩ | ⟨hk, b0, b1, rfl⟩
            · have p0 : decide (r1 < 0) = false := by simp; omega
              have p1 : decide (1 < r1) = false := by simp; omega
              clear b0 b1
              rcases hk with rfl | rfl
              · have hin : (oc < 0 ∧ decide (0 ≤ oc) = false) ∨ (0 ≤ oc ∧ decide (0 ≤ oc) = true ∧ decide (oc ≤ 63) = false) ∨ (0 ≤ oc ∧ decide (0 ≤ oc) = true ∧ decide (oc ≤ 63) = true ∧ decide (cb < 31) = false ∧ decide (2017 < cb) = false ∧ ((ou = true ∧ decide (ca < cb) = false) ∨ (ou = false ∧ decide (cb < ca) = false))) := by
                  by_cases a1 : 0 ≤ oc
                  · by_cases a2 : oc ≤ 63
                    · obtain ⟨h1, h2, h3, h4⟩ := hwc.out rfl a1 a2
                      refine .inr (.inr ⟨a1, decide_eq_true a1, decide_eq_true a2, decide_eq_false (by omega), decide_eq_false (by omega), ?_⟩)
                      cases ou with
                      | true => exact .inl ⟨rfl, decide_eq_false (by have := h1 rfl; omega)⟩
                      | false => exact .inr ⟨rfl, decide_eq_false (by have := h2 rfl; omega)⟩
                    · exact .inr (.inl ⟨a1, decide_eq_true a1, decide_eq_false a2⟩)
                  · exact .inl ⟨by omega, decide_eq_false a1⟩
                clear hwc
                rcases hin with ⟨_, p2⟩ | ⟨_, p2, p3⟩ | ⟨_, p2, p3, p4, p5, ⟨rfl, p6⟩ | ⟨rfl, p6⟩⟩
                all_goals
                  go_wp2_with fail
                  refine (FL.out _).mono ?_
                  rintro e w9 ⟨rfl, rfl⟩
                  go_wp2_with fail
                  have kk := KK.out
                  go_roundg (gk - 1)
                  case measure => omega
                  case rel => exact ⟨j + 1, _, _, by omega, by omega, by go_num, ⟨F5, G5, T5.out.two⟩, hst.out⟩
              · clear hwc
                go_wp2_with fail
                refine (FL.out _).mono ?_
                rintro e w9 ⟨rfl, rfl⟩
                go_wp2_with fail
                have kk := KK.out
                go_roundg (gk - 1)
                case measure => omega
                case rel => exact ⟨j + 1, _, _, by omega, by omega, by go_num, ⟨F5, G5, T5.out.two⟩, hst.out⟩
            · have p0 : decide (r1 < 0) = false := by simp; omega
              have p1 : decide (3 < r1) = false := by simp; omega
              clear b0 b1 hwc
              rcases hk with rfl | rfl
              all_goals
                go_wp2_with fail
                have kk := KK.out
                go_roundg (gk - 1)
                case measure => omega
                case rel => exact ⟨j + 1, _, _, by omega, by omega, by go_num, ⟨F5, G5, T5.out.two⟩, hst.out⟩
            · have p0 : decide (r1 < -15) = false := by simp; omega
              have p1 : decide (15 < r1) = false := by simp; omega
              have s0 : (kd == 0) = false := by simp; omega
              have s1 : (kd == 1) = false := by simp; omega
              have s2 : (kd == 2) = false := by simp; omega
              have s3 : (kd == 3) = false := by simp; omega
              clear b0 b1 hwc hk
              go_wp2_with fail
              have kk := KK.out
              go_roundg (gk - 1)
              case measure => omega
              case rel => exact ⟨j + 1, _, _, by omega, by omega, by go_num, ⟨F5, G5, T5.out.two⟩, hst.out⟩
      · have hex : (l.length ≤ j ∨ (j < l.length ∧ 2000 ≤ j)) := by omega
        clear hlt
        rcases hex with hj1 | ⟨hj1, hj3⟩
        all_goals
          first
            | have q1 : decide ((j : Int) < (l.length : Int)) = false := by simp; omega
            | have q1 : decide ((j : Int) < (l.length : Int)) = true := by simp; omega
          have q2 : 2000 ≤ j → decide ((j : Int) < 2000) = false := by intro h; simp; omega
          first
            | have q3 := q2 hj3
            | skip
          clear q2
          go_wp2_with fail
          refine (first_any _).mono ?_
          rintro e w9 ⟨rfl, h9⟩
          have B9 := hid h9
          clear h9
          go_wp2_with fail
          go_ret
          exact ⟨rfl, T.out.1.bel.trans (B9.out.mono T.out.1.size)⟩
end Go.Proofs.Ytgdhbmpdicdbpaa
