/- ModelReads: the walk. -/
import Derived.Test.YtgdhbmpdicdbpaaFirst13
import Derived.Deep.RegionHeld3
namespace Go.Proofs.Ytgdhbmpdicdbpaa
open Go.RowKit

/-- The operations that came in: a slice of structs of four cells, below block B. -/
def OpsAt (w : World) (x : Value) (l : List Oper13) : Prop :=
  ∃ A c, x = .slice A l.length c ∧ (l ≠ [] → ∃ b off, A = some ⟨b, off, none⟩ ∧ b < w.heap.size ∧ ∀ (i : Nat) (o : Oper13), l[i]? = some o →
    w.cell? ⟨b, off + i * 4, none⟩ = some (.int .i64 o.kind) ∧ w.cell? ⟨b, off + i * 4 + 1, none⟩ = some (.int .i64 o.c) ∧ w.cell? ⟨b, off + i * 4 + 2, none⟩ = some (.int .i64 o.v) ∧ w.cell? ⟨b, off + i * 4 + 3, none⟩ = some (.bool o.b))
/-- Bytes that came in. -/
def BysAt (w : World) (x : Value) (bs : List UInt8) : Prop := From w 1 x bs.length (bs.map byteV)
theorem From.below {w w' : World} {size m : Nat} {x : Value} {news : List Value} (h : From w size x m news) (hb : Below w.heap.size w w') : From w' size x m news := by
  obtain ⟨A, c, h2, h3, h4⟩ := h
  refine ⟨A, c, h2, h3, fun h0 => ?_⟩
  obtain ⟨ad, h5, h6⟩ := h4 h0
  refine ⟨ad, h5, fun j u hu => ?_⟩
  have := h6 j u hu
  rw [hb.cell (World.block_lt_of_cell? _ _ this)]
  exact this
theorem from_form {w : World} {x : Value} {bs : List UInt8} (h : BysAt w x bs) : ∃ A c, x = .slice A bs.length c := by
  obtain ⟨A, c, h1, _⟩ := h
  exact ⟨A, c, h1⟩

theorem u8_not (x : UInt8) : bits .xor .u8 (x.toNat : Int) 255 = (((x ^^^ 255).toNat : Nat) : Int) := by
  have h : bits .xor .u8 (x.toNat : Int) ((255 : Nat) : Int) = ((x.toNat ^^^ 255 : Nat) : Int) := u8_xor_nat _ _ x.toNat_lt (by omega)
  rw [UInt8.toNat_xor]
  exact h
theorem set_byte (l : List UInt8) (j : Nat) (y : UInt8) : (l.map byteV).set j (byteV y) = (l.set j y).map byteV := by rw [List.map_set]

theorem ops_cells {w W : World} {lb off j B : Nat} {o : Oper13} (hb : Below B w W) (hl : lb < B)
    (h : w.cell? ⟨lb, off + j * 4, none⟩ = some (.int .i64 o.kind) ∧ w.cell? ⟨lb, off + j * 4 + 1, none⟩ = some (.int .i64 o.c) ∧ w.cell? ⟨lb, off + j * 4 + 2, none⟩ = some (.int .i64 o.v) ∧ w.cell? ⟨lb, off + j * 4 + 3, none⟩ = some (.bool o.b)) :
    W.cell? ⟨lb, off + j * 4, none⟩ = some (.int .i64 o.kind) ∧ W.cell? ⟨lb, off + j * 4 + 1, none⟩ = some (.int .i64 o.c) ∧ W.cell? ⟨lb, off + j * 4 + 2, none⟩ = some (.int .i64 o.v) ∧ W.cell? ⟨lb, off + j * 4 + 3, none⟩ = some (.bool o.b) :=
  ⟨(hb.cell (p := ⟨lb, _, none⟩) hl).trans h.1, (hb.cell (p := ⟨lb, _, none⟩) hl).trans h.2.1, (hb.cell (p := ⟨lb, _, none⟩) hl).trans h.2.2.1, (hb.cell (p := ⟨lb, _, none⟩) hl).trans h.2.2.2⟩
theorem cut_lt (v : Int) (n : Nat) (h : n < 3) : decide ((n : Int) < cut v 0 3) = decide ((n : Int) < v) := by
  unfold cut
  by_cases hv : (n : Int) < v
  · rw [decide_eq_true hv, decide_eq_true (by omega)]
  · rw [decide_eq_false hv, decide_eq_false (by omega)]
theorem Alike.asks {σ τ : Type} {M : Mach σ} {N : Mach τ} {R : σ → τ → Prop} (H : Alike M N R) {s : σ} {t : τ} (h : R s t) (o : Oper13) :
    (M.asks o (cut o.v 0 3) s).1 = (N.asks o o.v t).1 ∧ R (M.asks o (cut o.v 0 3) s).2 (N.asks o o.v t).2 := by
  unfold Mach.asks
  split
  · have := H.any h o.c o.b
    exact ⟨by simp only [this.1], this.2⟩
  · split
    · have := H.flat s t o.b h
      exact ⟨by simp only [this.1], this.2⟩
    · split
      · exact H.kind h _ _ (cut_lt o.v)
      · split
        · exact H.mode h o.v
        · exact H.part h o.v
/-- Both go alike, and are as they must be behind i operations. -/
structure Both (s : Rd) (t : XRd) (i : Nat) : Prop where
  sim : RdSim s t
  ok1 : ∃ n, n ≤ 4 + 60 * i ∧ s.Ok n
  ok2 : ∃ n, n ≤ 4 + 60 * i ∧ t.Ok n
theorem Both.step {s : Rd} {t : XRd} {i : Nat} (h : Both s t i) (o : Oper13) :
    (rdM.asks o (cut o.v 0 3) s).1 = (xrM.asks o o.v t).1 ∧ Both (rdM.asks o (cut o.v 0 3) s).2 (xrM.asks o o.v t).2 (i + 1) := by
  obtain ⟨h1, ⟨n, hn, h2⟩, ⟨m, hm, h3⟩⟩ := h
  have ha := rd_alike.asks h1 o
  obtain ⟨n', hn', k1⟩ := (rd_coder 0).okAsks o (cut o.v 0 3) s n h2
  obtain ⟨m', hm', k2⟩ := (xr_coder 0 0).okAsks o o.v t m h3
  exact ⟨ha.1, ha.2, ⟨n', by omega, k1⟩, ⟨m', by omega, k2⟩⟩

theorem ok_xr_new (bs : List UInt8) : (XRd.new bs).Ok 4 := by
  have h0 := byteAt_lt bs 0
  have h1 := byteAt_lt bs 1
  have h2 := byteAt_lt bs 2
  have h3 := byteAt_lt bs 3
  refine ⟨pok_first, ⟨by show 16777216 ≤ 4294967295; omega, by show 4294967295 ≤ 4294967295; omega, ?_, by show 4 ≤ 4; omega⟩⟩
  show (Dec.rnew bs).off ≤ _
  simp only [Dec.rnew, Dec.rnext]
  omega
theorem both_new (bs : List UInt8) : Both (Rd.new bs) (XRd.new bs) 0 :=
  ⟨⟨rfl, DecSim.new bs, pok_first, by show 16777216 ≤ 4294967295; omega, by show 4294967295 ≤ 4294967295; omega, by have := pre_lt bs 4 (by omega); show pre bs 4 ≤ 4294967295; omega⟩, ⟨4, by omega, ok_rd_new bs⟩, ⟨4, by omega, ok_xr_new bs⟩⟩

set_option maxRecDepth 100000 in
set_option maxHeartbeats 1600000 in
theorem reads_walk (x y : Value) (bs : List UInt8) (l : List Oper13) (w : World) (hx : BysAt w x bs) (hy : OpsAt w y l) (hbl : bs.length ≤ maxLen) :
    Calls Try.prog 3 #[x, y] w fun e w' => e = .returned (.bool true) ∧ Below w.heap.size w w' := by
  unfold maxLen at hbl
  obtain ⟨A, c, rfl⟩ := from_form hx
  obtain ⟨A2, c2, rfl, hy2⟩ := hy
  have Y := hid hy2
  have X := hid hx
  clear hx hy2
  by_cases hbig : 20000 < bs.length
  · have hb' : (20000 : Int) < (bs.length : Int) := by omega
    clear hbig
    go_enter Try.func3, Try.ntmps3
    go_wp2_with fail
    refine (first_any _).mono ?_
    rintro e w1 ⟨rfl, h1⟩
    have B1 := hid h1
    clear h1
    go_wp2_with fail
    refine (first_any _).mono ?_
    rintro e w2 ⟨rfl, h1⟩
    have B2 := hid h1
    clear h1
    go_wp2_with fail
    go_ret
    exact ⟨rfl, B1.out.trans (B2.out.mono B1.out.size)⟩
  · have hb' : decide ((20000 : Int) < (bs.length : Int)) = false := by simp; omega
    go_enter Try.func3, Try.ntmps3
    go_wp2_with fail
    refine (first_any _).mono ?_
    rintro e w1 ⟨rfl, h1⟩
    have B1 := hid h1
    clear h1
    go_wp2_with fail
    refine (copy_bytes _ bs _ (X.out.below B1.out) (by omega)).mono ?_
    rintro e w2 ⟨g, cap, rfl, ho, hb⟩
    have B2 := hid (And.intro ho hb)
    clear ho hb
    go_wp2_with fail
    refine (new_rd _ bs _ (From.of_own B2.out.1) (by omega)).mono ?_
    rintro e w3 ⟨rb, F, rfl, a3, f3, b3⟩
    have B3 := hid (And.intro a3 (And.intro f3 b3))
    clear a3 f3 b3
    go_wp2_with fail
    have hg : w.heap.size ≤ g ∧ g < w2.heap.size := by
      have hs1 := B1.out.size
      have hl := (B2.out.1.lt g rfl)
      omega
    have GG := hid hg
    clear hg
    go_loopg [7] bs.length (fun k i wr => ∃ (j : Nat) (cur : List UInt8), j + k = bs.length ∧ i = .int .i64 j ∧ cur.length = bs.length ∧ wr.ownsRow w1.heap.size 5 1 (.slice (some ⟨g, 0, none⟩) bs.length cap) bs.length (cur.map byteV) ∧ Only (· = g) w3 wr)
    case atStart =>
      refine ⟨0, bs, by omega, rfl, rfl, ?_, Only.refl _ _⟩
      exact B2.out.1.kept (row := none) ⟨B3.out.2.2.os, B3.out.2.2.tape, B3.out.2.2.output, B3.out.2.2.size, fun k hk _ => B3.out.2.2.block k hk⟩ (.inr (by simp [Value.ownBlock]))
    case round =>
      obtain ⟨j, cur, hj, rfl, hcl, hown, ho⟩ := hrel
      by_cases hlt : j < bs.length
      · obtain ⟨q, hq⟩ : ∃ q, cur[j]? = some q := ⟨cur[j]'(by omega), List.getElem?_eq_getElem (by omega)⟩
        have hx := hown.cellAt j (by omega)
        have fx := hown.frozenAt j
        simp [hq, byteV] at hx
        have hn := u8_not q
        have j0 : (0 : Int) ≤ (j : Int) := by omega
        have j1 : (j : Int) < (bs.length : Int) := by omega
        have XX := hid (And.intro hown (And.intro ho (And.intro hcl (And.intro hj hq))))
        have hqlt := q.toNat_lt
        generalize hqn : q.toNat = qn at *
        generalize hqm : (q ^^^ 255).toNat = qm at *
        have QQ := hid (And.intro hqn hqm)
        clear hown ho hq hcl hj hqn hqm
        go_wp2_with fail
        obtain ⟨hown, ho, hcl, hj, hq⟩ := XX.out
        go_roundg (gk - 1)
        case measure => omega
        case rel =>
          refine ⟨j + 1, cur.set j (q ^^^ 255), by omega, by go_num, by simpa using hcl, ?_, ho.put (by rfl) j _⟩
          have := (hown.stored j (byteV (q ^^^ 255))).1
          rw [set_byte] at this
          rw [← QQ.out.2]
          exact this
      · have XX := hid ho
        have hj1 : decide ((j : Int) < (bs.length : Int)) = false := by simp; omega
        clear ho hown
        have hb3 : Below w.heap.size w wr := by
          have hs1 := B1.out.size
          have hs2 := B2.out.2.size
          have hs3 := B3.out.2.2.size
          refine (B1.out.trans (B2.out.2.mono hs1)).trans ((B3.out.2.2.mono (by omega)).trans ?_)
          exact below_mono_only XX.out (by omega) (fun k hk => by have := GG.out.1; omega)
        have hF : AtRd rb wr F (Rd.new bs) := (rd_coder rb).keep _ _ F _ _ B3.out.1 XX.out (fun k hk => by have := B3.out.2.1 k hk; have := GG.out.2; omega)
        have BB := hid (And.intro hb3 hF)
        clear hb3 hF
        go_wp2_with fail
        refine (new_xr _ bs _ ((X.out.below BB.out.1)) (by omega)).mono ?_
        rintro e w4 ⟨xb, xd, G, rfl, a4, f4, b4⟩
        have hT : TwoAt w.heap.size w (AtRd rb) (AtXr xb xd) F G (Rd.new bs) (XRd.new bs) w4 := by
          have hs1 := B1.out.size
          have hs2 := B2.out.2.size
          have hs3 := B3.out.2.2.size
          have hs4 := BB.out.1.size
          have hth := fun k hk => (rd_coder rb).there _ F _ k BB.out.2 hk
          exact ⟨(rd_coder rb).keep _ _ F (fun k => wr.heap.size ≤ k) _ BB.out.2 (Only.of_below_up b4) (fun k hk => by have := hth k hk; omega), a4, fun k hk hg => by have := hth k hk; have := f4 k hg; omega, fun k hk => by have := B3.out.2.1 k hk; omega, fun k hk => by have := f4 k hk; omega, BB.out.1.trans (b4.mono hs4), by have := b4.size; omega⟩
        have T := hid hT
        clear a4 f4 b4 hT
        go_wp2_with fail
        go_loopg [9] l.length (fun k i wr => ∃ (j : Nat) (s : Rd) (t : XRd), j + k = l.length ∧ j ≤ 2000 ∧ i = .int .i64 j ∧ Two w.heap.size w (AtRd rb) (AtXr xb xd) s t wr ∧ Both s t j)
        case atStart => exact ⟨0, _, _, by omega, by omega, rfl, ⟨F, G, T.out⟩, both_new bs⟩
        case round =>
          clear T BB XX GG B3 B2 B1 hj1 hlt hj hcl
          obtain ⟨j, s, t, hj, hj2, rfl, ⟨F, G, hT⟩, hb⟩ := hrel
          have T := hid (And.intro hT (And.intro hb hj))
          clear hT hb hj
          by_cases hlt : j < l.length ∧ j < 2000
          · have j1 : decide ((j : Int) < (l.length : Int)) = true := by simp; omega
            have j2 : decide ((j : Int) < 2000) = true := by simp; omega
            have JJ := hid hlt
            clear hlt
            obtain ⟨o, hoj⟩ : ∃ o, l[j]? = some o := ⟨l[j]'JJ.out.1, List.getElem?_eq_getElem JJ.out.1⟩
            obtain ⟨lb, off, rfl, hlb, hcs⟩ := Y.out (by intro e; rw [e] at hoj; simp at hoj)
            have hc := ops_cells T.out.1.bel hlb (hcs j o hoj)
            obtain ⟨c0, c1, c2', c3⟩ := hc
            have hD := xr_D T.out.1.r
            have C0 := hid (And.intro (hcs j o hoj) hlb)
            clear hcs hoj
            have k0 : (0 : Int) ≤ (j : Int) := by omega
            have k1 : (j : Int) < (l.length : Int) := by have := JJ.out.1; omega
            have hst := T.out.2.1.step o
            generalize hA : rdM.asks o (cut o.v 0 3) s = AA at *
            generalize hX : xrM.asks o o.v t = XA at *
            obtain ⟨r1, s'⟩ := AA
            obtain ⟨r2, t'⟩ := XA
            obtain ⟨hr, hb'⟩ := hst
            simp only at hr hb'
            subst hr
            have AX := hid (And.intro hA (And.intro hX hb'))
            clear hA hX hb'
            have T0 : Hid (TwoAt w.heap.size w (AtRd rb) (AtXr xb xd) F G s t wr.drew) := T.out.1.read (rd_coder rb) (xr_coder xb xd) ((Only.refl _ wr).drew)
            go_wp2_with fail
            go_cut [72] (fun v W => v = .bool false ∧ Two w.heap.size w (AtRd rb) (AtXr xb xd) s' t' W)
            case first =>
              have lim1 : ∃ n, n ≤ 4 + 60 * j ∧ s.Ok n := T.out.2.1.ok1
              obtain ⟨n1, hn1, ok1⟩ := lim1
              obtain ⟨n2, hn2, ok2⟩ := T.out.2.1.ok2
              have OK1 := hid (And.intro hn1 ok1)
              have OK2 := hid (And.intro hn2 ok2)
              have jl : j ≤ 2000 := hj2
              have HA : Hid (∀ (W : World) (F : Nat → Prop), AtRd rb W F s → Calls Try.prog 12 #[.iface 26 (.pointer (some ⟨rb, 0, none⟩)), .agg #[.int .i64 o.kind, .int .i64 o.c, .int .i64 o.v, .bool o.b]] W (Coded (AtRd rb) W F (r1, s'))) := fun W F h => by
                have := asks_any rb _ (rd_coder rb) (rd_speaks rb) o s W F n1 h ok1 (by omega)
                rw [AX.out.1] at this
                exact this
              have HW : Hid (∀ (W : World) (F : Nat → Prop), AtXr xb xd W F t → Calls Try.prog 13 #[.pointer (some ⟨xb, 0, none⟩), .agg #[.int .i64 o.kind, .int .i64 o.c, .int .i64 o.v, .bool o.b]] W (Coded (AtXr xb xd) W F (r1, t'))) := fun W F h => by
                have := wants_any xb (xr_coder xb xd) o t W F n2 h ok2 (by omega)
                rw [AX.out.2.1] at this
                exact this
              clear hn1 ok1 hn2 ok2
              have hat1 : s'.d.at_ ≤ 1000000000 := by obtain ⟨n, h1, h2⟩ := AX.out.2.2.ok1; have := h2.d.at_; omega
              have hat2 : t'.d.at_ ≤ 1000000000 := by obtain ⟨n, h1, h2⟩ := AX.out.2.2.ok2; have := h2.d.at_; omega
              have hov : t'.d.at_ - t'.d.bs.length = s'.d.at_ - s'.d.bs.length := by rw [AX.out.2.2.sim.d.bs, AX.out.2.2.sim.d.at_]
              have OV := hid (And.intro hat1 (And.intro hat2 (And.intro hov AX.out.2.2.sim.ok.len)))
              clear hat1 hat2 hov
              go_region_held3 (fun W => W.cell? ⟨lb, off + j * 4, none⟩ = some (.int .i64 o.kind) ∧ W.cell? ⟨lb, off + j * 4 + 1, none⟩ = some (.int .i64 o.c) ∧ W.cell? ⟨lb, off + j * 4 + 2, none⟩ = some (.int .i64 o.v) ∧ W.cell? ⟨lb, off + j * 4 + 3, none⟩ = some (.bool o.b) ∧ W.cell? ⟨xb, 2, none⟩ = some (.pointer (some ⟨xd, 0, none⟩)))
                (first
                  | exact ⟨c0, c1, c2', c3, hD⟩
                  | exact ⟨d0, d1, d2, d3, dD⟩
                  | exact ⟨e0, e1, e2, e3, eD⟩)
                (first
                  | (go_at_call 12
                     refine (HA.out _ F (by exact T0.out.l)).mono ?_
                     rintro e w5 ⟨rfl, hm⟩
                     obtain ⟨F2, G2, hT2⟩ := T0.out.left (xr_coder xb xd) hm
                     obtain ⟨d0, d1, d2, d3⟩ := ops_cells hT2.bel C0.out.2 C0.out.1
                     have dD := xr_D hT2.r
                     have T2 := hid hT2
                     clear hm hT2)
                  | (go_at_call 13
                     refine (HW.out _ G2 (by exact T2.out.r)).mono ?_
                     rintro e w6 ⟨rfl, hm⟩
                     obtain ⟨F3, G3, hT3⟩ := T2.out.right (rd_coder rb) hm
                     obtain ⟨e0, e1, e2, e3⟩ := ops_cells hT3.bel C0.out.2 C0.out.1
                     have eD := xr_D hT3.r
                     have T3 := hid hT3
                     clear hm hT3)
                  | (go_at_call 14
                     refine (at_over rb _ F3 s' (by exact T3.out.l) OV.out.2.2.2 OV.out.1).mono ?_
                     rintro e w7 ⟨rfl, m1, rfl⟩)
                  | (go_at_call 15
                     refine (xr_over xb xd _ G3 t' (by exact (T3.out.read (rd_coder rb) (xr_coder xb xd) (only_drewN' _ _)).r) OV.out.2.1).mono ?_
                     rintro e w8 ⟨rfl, m2, rfl⟩
                     rw [OV.out.2.2.1]))
              all_goals
                go_wp2_with fail
                go_meet
                exact ⟨rfl, _, _, T3.out.read (rd_coder rb) (xr_coder xb xd) (only_drewN' _ _)⟩
            case rest =>
              obtain ⟨rfl, hT'⟩ := hcut
              have TT := hid hT'
              have KK := hid (And.intro T.out.2.2 JJ.out)
              clear hT' T T0 c0 c1 c2' c3 hD
              go_wp2_with fail
              have kk := KK.out
              go_roundg (gk - 1)
              case measure => omega
              case rel => exact ⟨j + 1, s', t', by omega, by omega, by go_num, TT.out, AX.out.2.2⟩
          · have hex : (l.length ≤ j ∨ (j < l.length ∧ 2000 ≤ j)) := by omega
            have PP : Hid (s.P = t.P ∧ s.P.length = 64 ∧ t.P.length = 64) := ⟨T.out.2.1.sim.P, T.out.2.1.sim.ok.len, by rw [← T.out.2.1.sim.P]; exact T.out.2.1.sim.ok.len⟩
            clear hlt
            rcases hex with hj1 | ⟨hj1, hj3⟩
            all_goals
              first
                | have q1 : decide ((j : Int) < (l.length : Int)) = false := by simp; omega
                | have q1 : decide ((j : Int) < (l.length : Int)) = true := by simp; omega
              have q2 : 2000 ≤ j → decide ((j : Int) < 2000) = false := by intro h; simp; omega
              first
                | have q3 := q2 hj3
                | skip
              clear q2
              go_wp2_with fail
              go_loopg [10] 67 (fun k i wr2 => ∃ j : Nat, j + k = 67 ∧ i = .int .i64 ((j : Int) - 1) ∧ wr2 = wr)
              case atStart => exact ⟨0, rfl, rfl, rfl⟩
              case round =>
                obtain ⟨j', hj', rfl, rfl⟩ := hrel
                by_cases hlt : j' < 67
                · have m1 : decide (((j' : Int) - 1) < 66) = true := by simp; omega
                  go_wp2_with fail
                  refine (rd_chance rb _ F s _ T.out.1.l PP.out.2.1).mono ?_
                  rintro e w9 ⟨rfl, rfl⟩
                  go_wp2_with fail
                  refine (xr_chance xb xd _ G t _ T.out.1.r PP.out.2.2).mono ?_
                  rintro e w9 ⟨rfl, rfl⟩
                  rw [PP.out.1]
                  go_wp2_with fail
                  go_roundg (gk - 1)
                  case measure => omega
                  case rel => exact ⟨j' + 1, by omega, by go_num, rfl⟩
                · have m1 : decide (((j' : Int) - 1) < 66) = false := by simp; omega
                  go_wp2_with fail
                  refine (first_any _).mono ?_
                  rintro e w9 ⟨rfl, h9⟩
                  have B9 := hid h9
                  clear h9
                  go_wp2_with fail
                  go_ret
                  exact ⟨rfl, T.out.1.bel.trans (B9.out.mono T.out.1.size)⟩
end Go.Proofs.Ytgdhbmpdicdbpaa
