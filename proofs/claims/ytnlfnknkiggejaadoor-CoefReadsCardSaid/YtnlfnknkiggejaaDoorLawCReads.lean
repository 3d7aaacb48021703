/- CoefReads: the walk. -/
import Derived.Test.YtnlfnknkiggejaaDoorOwnC
import Derived.Test.YtnlfnknkiggejaaDoorOpenLst
import Derived.Test.YtnlfnknkiggejaaDoorUMem
import Derived.Test.YtnlfnknkiggejaaDoorCoefD
namespace Go.Proofs.YtnlfnknkiggejaaDoor
open Go.RowKit

theorem ok_xr_new (bs : List UInt8) : (XRd.new bs).Ok 4 := by
  have h0 := byteAt_lt bs 0
  have h1 := byteAt_lt bs 1
  have h2 := byteAt_lt bs 2
  have h3 := byteAt_lt bs 3
  refine ⟨pok_first, ⟨by show 16777216 ≤ 4294967295; omega, by show 4294967295 ≤ 4294967295; omega, ?_, by show 4 ≤ 4; omega⟩⟩
  show (Dec.rnew bs).off ≤ _
  simp only [Dec.rnew, Dec.rnext]
  omega
theorem sim_new (bs : List UInt8) : RdSim (Rd.new bs) (XRd.new bs) :=
  ⟨rfl, DecSim.new bs, pok_first, by show 16777216 ≤ 4294967295; omega, by show 4294967295 ≤ 4294967295; omega, by have := pre_lt bs 4 (by omega); show pre bs 4 ≤ 4294967295; omega⟩
section
variable {σ τ : Type} {M : Mach σ} {N : Mach τ} {f1 f2 f3 f4 : FuncId} {m1 m2 : Value} {A1 : World → (Nat → Prop) → σ → Prop} {A2 : World → (Nat → Prop) → τ → Prop} {O1 : σ → Nat → Prop} {O2 : τ → Nat → Prop}
variable {B : Nat} {w0 wr w' : World} {F F' G G' : Nat → Prop} {s s' : σ} {t t' : τ}
theorem TwoAt.leftC (H2 : IsCoder N f3 f4 m2 A2 O2) (T : TwoAt B w0 A1 A2 F G s t wr) (c : CW A1 wr F s' w' F') : TwoAt B w0 A1 A2 F' G s' t w' :=
  ⟨c.a, H2.keep _ _ G F t T.r c.o (fun k hk hf => T.dis k hf hk), fun k hk hg => by
    rcases c.f k hk with h | h
    · exact T.dis k h hg
    · have := H2.there _ _ _ _ T.r hg
      omega, fun k hk => by
    have := T.size
    rcases c.f k hk with h | h
    · exact T.lB k h
    · omega, T.rB, T.bel.trans ⟨c.o.os, c.o.tape, c.o.output, c.o.size, fun k hk => c.o.block k (by have := T.size; omega) (fun h => by have := T.lB k h; omega)⟩, Nat.le_trans T.size c.o.size⟩
theorem TwoAt.rightC (H1 : IsCoder M f1 f2 m1 A1 O1) (T : TwoAt B w0 A1 A2 F G s t wr) (c : CW A2 wr G t' w' G') : TwoAt B w0 A1 A2 F G' s t' w' :=
  ⟨H1.keep _ _ F G s T.l c.o (fun k hk hg => T.dis k hk hg), c.a, fun k hk hg => by
    rcases c.f k hg with h | h
    · exact T.dis k hk h
    · have := H1.there _ _ _ _ T.l hk
      omega, T.lB, fun k hk => by
    have := T.size
    rcases c.f k hk with h | h
    · exact T.rB k h
    · omega, T.bel.trans ⟨c.o.os, c.o.tape, c.o.output, c.o.size, fun k hk => c.o.block k (by have := T.size; omega) (fun h => by have := T.rB k h; omega)⟩, Nat.le_trans T.size c.o.size⟩
end
/-- What both answer: a and c read alike; the errors are the same. -/
def Told (W : World) (r : SqR) (a ev c : Value) (ec : Int) (ep : Value) : Prop :=
  Nums W a r.2 ∧ Nums W c r.2 ∧ ((r.1 = none ∧ ev = .nilIface ∧ ec = 0 ∧ ep = .slice none 0 0) ∨ (∃ i : Nat, r.1 = some i ∧ ec = 3 ∧ ErrV W 3 [(⟨#[99, 111, 101, 102]⟩, (i : Int))] ev ∧ Steps W ep [(⟨#[99, 111, 101, 102]⟩, (i : Int))]))
theorem Told.below {W W' : World} {r : SqR} {a ev c ep : Value} {ec : Int} (h : Told W r a ev c ec ep) (hb : Below W.heap.size W W') : Told W' r a ev c ec ep := by
  obtain ⟨h1, h2, h3⟩ := h
  refine ⟨h1.below hb, h2.below hb, ?_⟩
  rcases h3 with h3 | ⟨i, h4, h5, h6, h7⟩
  · exact .inl h3
  · exact .inr ⟨i, h4, h5, h6.below hb, h7.below hb⟩
theorem Told.err {W : World} {r : SqR} {a ev c ep : Value} {ec : Int} (h : Told W r a ev c ec ep) (hg : ErrT W) : Calls Tryd.prog 21 #[ev, .agg #[.int .i64 ec, ep]] W fun e w' => e = .returned (.bool true) ∧ Below W.heap.size W w' := by
  obtain ⟨_, _, h3⟩ := h
  rcases h3 with ⟨_, rfl, rfl, rfl⟩ | ⟨i, _, rfl, h6, h7⟩
  · exact err_same 0 W hg
  · exact err_path 3 _ ev ep W h6 h7 hg (by omega) (by show 1 ≤ 1000; omega)
theorem Blk.one {w : World} {g : Nat} {t t' : TypeId} {cs cs' : Array Value} (h : Blk w g t cs) (h' : Blk w g t' cs') : t = t' := by
  have e := Option.some.inj (h.symm.trans h')
  injection e
theorem xr_no_fault {b db : Nat} {w : World} {G : Nat → Prop} {s : XRd} (h : AtXr b db w G s) {fb : Nat} {cs : Array Value} (hB : Blk w fb 150 cs) : ¬ G fb := by
  obtain ⟨g, cap, h1, rfl⟩ := h
  rintro (rfl | rfl | rfl)
  · exact absurd (h1.blk.one hB) (by decide)
  · exact absurd (h1.dec.blk.one hB) (by decide)
  · obtain ⟨cs', hb, _⟩ := h1.dec.bys
    exact absurd (hb.one hB) (by decide)
theorem nums_nil (W : World) : Nums W (.slice none 0 0) [] := ⟨none, 0, rfl, Nat.le_refl _, fun h => absurd rfl h⟩
theorem ans_form {w0 w' : World} {r : SqR} {F : Nat → Prop} {e : Ending} (h : SqAns w0 r F e w') : ∃ a ev, e = .returned (.tuple #[a, ev]) := by
  obtain ⟨ro, rl⟩ := r
  cases ro with
  | none => obtain ⟨g, h1, _⟩ := h; exact ⟨_, _, h1⟩
  | some i => obtain ⟨ev, h1, _⟩ := h; exact ⟨_, _, h1⟩
theorem sqok_len {n : Nat} {r : SqR} (h : SqOk n r) : r.2.length ≤ n := by
  rcases h with ⟨_, h, _⟩ | ⟨_, _, _, h⟩
  · omega
  · rw [h]; simp
/-- From the two answers. -/
theorem told_of {w5 w6 w7 : World} {F6 G G7 : Nat → Prop} {r : SqR} {e1 e2 : Ending} {k : Nat} (hok : SqOk k r) (h1 : SqAns w5 r F6 e1 w6) (h2 : RSqAns w6 r G7 e2 w7) (ho : Only G w6 w7) (hG : ∀ k, G k → k < w5.heap.size)
    (hF : ∀ fb cs, Blk w6 fb 150 cs → ¬ G fb) :
    ∃ a ev c ec ep, e1 = .returned (.tuple #[a, ev]) ∧ e2 = .returned (.tuple #[c, .agg #[.int .i64 ec, ep]]) ∧ Told w7 r a ev c ec ep := by
  obtain ⟨ro, rl⟩ := r
  rcases hok with ⟨q1, q2, q3⟩ | ⟨i, q1, q2, q3⟩
  · dsimp only at q1 q2 q3
    subst q1
    obtain ⟨g, rfl, hb⟩ := h1
    obtain ⟨g2, rfl, hb2⟩ := h2
    refine ⟨_, _, _, 0, _, rfl, rfl, (nums_blk hb.b rfl).keepO ho (fun k hk hGk => ?_), nums_blk hb2.b rfl, .inl ⟨rfl, rfl, rfl, rfl⟩⟩
    have e : g = k := by simpa [Value.ownBlock] using hk
    have := hG k hGk
    have := hb.lo
    omega
  · dsimp only at q1 q2 q3
    subst q1 q3
    obtain ⟨ev, rfl, hv⟩ := h1
    obtain ⟨pv, rfl, hs⟩ := h2
    exact ⟨_, _, _, 3, _, rfl, rfl, nums_nil _, nums_nil _, .inr ⟨i, rfl, rfl, ErrV.only ho (fun k cs hk hb => hF k cs hb hk) hv, hs⟩⟩
set_option maxRecDepth 100000 in
set_option maxHeartbeats 8000000 in
theorem creads_walk (x y : Value) (bs : List UInt8) (l : List Bool) (w : World) (hx : Byt w x bs) (_ : bs.length ≤ maxLen) (hy : Els w 1 BoolR y l) (_ : l.length ≤ maxLen) (hsz : bs.length ≤ 140737488351232) (hg : ErrT w) :
    Calls Tryd.prog 7 #[x, y] w fun e w' => e = .returned (.bool true) ∧ Below w.heap.size w w' := by
  obtain ⟨A, c, rfl, hc⟩ := hx.form
  obtain ⟨B, d, rfl, hd⟩ := Els.form hy
  have HG := hid (And.intro hg hg.lt)
  have X := hid hx
  have Y := hid hy
  clear hg hx hc hy hd
  have hbig : decide ((20000 : Int) < (bs.length : Int)) = true ∨ decide ((20000 : Int) < (bs.length : Int)) = false := by cases decide ((20000 : Int) < (bs.length : Int)) <;> simp
  rcases hbig with hbig | hbig
  · go_enter Tryd.func7, Tryd.ntmps7
    go_wp2_with fail
    refine (first14 _ HG.out.1).mono ?_
    rintro e w1 ⟨rfl, h1⟩
    have B1 := hid h1
    clear h1
    go_wp2_with fail
    refine (new_rd _ bs _ (X.out.below B1.out).from_ (by omega)).mono ?_
    rintro e w2 ⟨b1, F1, rfl, _, _, hb1⟩
    have B2 := hid (B1.out.trans (hb1.mono B1.out.size))
    clear hb1
    go_wp2_with fail
    refine (first14 _ (by exact HG.out.1.below B2.out HG.out.2)).mono ?_
    rintro e w4 ⟨rfl, hb4⟩
    have B4 := hid (B2.out.trans (hb4.mono B2.out.size))
    clear hb4
    go_wp2_with fail
    go_ret
    exact ⟨rfl, B4.out⟩
  · have HL := hid (show bs.length ≤ 20000 by simp only [decide_eq_false_iff_not] at hbig; omega)
    go_enter Tryd.func7, Tryd.ntmps7
    go_wp2_with fail
    refine (first14 _ HG.out.1).mono ?_
    rintro e w1 ⟨rfl, h1⟩
    have B1 := hid h1
    clear h1
    go_wp2_with fail
    refine (new_rd _ bs _ (X.out.below B1.out).from_ (by have := HL.out; omega)).mono ?_
    rintro e w2 ⟨b1, F1, rfl, ha1, hf1, hb1⟩
    have O2 := hid (show OwnC (AtRd b1) w (Rd.new bs) w2 F1 from ⟨ha1, fun k hk => Nat.le_trans B1.out.size (hf1 k hk), B1.out.trans (hb1.mono B1.out.size)⟩)
    clear ha1 hf1 hb1
    go_wp2_with fail
    clear hbig
    refine (new_xr _ bs _ (X.out.below O2.out.bel).from_ (by have := HL.out; omega)).mono ?_
    rintro e w3 ⟨b2, db, G1, rfl, ha2, hf2, hb2⟩
    have T2 := hid (show TwoAt w.heap.size w (AtRd b1) (AtXr b2 db) F1 G1 (Rd.new bs) (XRd.new bs) w3 from ⟨(rd_coder b1).keep _ _ F1 (fun _ => False) _ O2.out.a (Only.of_below hb2) (fun _ _ h => h), ha2, fun k h1 h2 => by have := (rd_coder b1).there _ _ _ _ O2.out.a h1; have := hf2 k h2; omega, O2.out.lo, fun k hk => Nat.le_trans O2.out.bel.size (hf2 k hk), O2.out.bel.trans (hb2.mono O2.out.bel.size), Nat.le_trans O2.out.bel.size hb2.size⟩)
    clear ha2 hf2 hb2
    go_wp2_with fail
    go_loopg [7] l.length (fun k iv wr => ∃ (i : Nat) (s : Rd) (t : XRd) (F G : Nat → Prop) (m m2 : Nat), i + k = l.length ∧ iv = .int .i64 i ∧ i ≤ 200 ∧ TwoAt w.heap.size w (AtRd b1) (AtXr b2 db) F G s t wr ∧ RdSim s t ∧ (m ≤ 4 + 8300 * i ∧ m2 ≤ 4 + 8300 * i) ∧ s.Ok m ∧ t.Ok m2)
    case atStart => exact ⟨0, Rd.new bs, XRd.new bs, F1, G1, 4, 4, by omega, rfl, by omega, T2.out, sim_new bs, by omega, ok_rd_new bs, ok_xr_new bs⟩
    case round =>
      obtain ⟨i, s, t, F, G, m, m2, hik, rfl, hi200, hown, hsim, ⟨hm, hm2⟩, hok, hok2⟩ := hrel
      have O := hid (And.intro hown (And.intro hsim (And.intro hok hok2)))
      have hcase : (decide ((i : Int) < (l.length : Int)) = false ∧ ¬ i < l.length) ∨ (i < l.length ∧ decide ((i : Int) < (l.length : Int)) = true ∧ decide ((i : Int) < 200) = false) ∨ (i < l.length ∧ decide ((i : Int) < (l.length : Int)) = true ∧ decide ((i : Int) < 200) = true) := by
        by_cases h1 : i < l.length
        · have e1 : decide ((i : Int) < (l.length : Int)) = true := by simp; omega
          by_cases h2 : i < 200
          · exact .inr (.inr ⟨h1, e1, by simp; omega⟩)
          · exact .inr (.inl ⟨h1, e1, by simp; omega⟩)
        · exact .inl ⟨by simp; omega, h1⟩
      rcases hcase with ⟨h1, h2⟩ | ⟨h1, h2, h3⟩ | ⟨h1, h2, h3⟩
      · have h9 : decide (i < l.length) = false := decide_eq_false h2
        clear hown hsim hok hok2
        go_wp2_with fail
        refine (first14 _ (by exact HG.out.1.below O.out.1.bel HG.out.2)).mono ?_
        rintro e w4 ⟨rfl, hb4⟩
        have B4 := hid (O.out.1.bel.trans (hb4.mono O.out.1.bel.size))
        clear hb4
        go_wp2_with fail
        go_ret
        exact ⟨rfl, B4.out⟩
      · have h9 : decide (i < l.length) = true := decide_eq_true h1
        clear hown hsim hok hok2
        go_wp2_with fail
        refine (first14 _ (by exact HG.out.1.below O.out.1.bel HG.out.2)).mono ?_
        rintro e w4 ⟨rfl, hb4⟩
        have B4 := hid (O.out.1.bel.trans (hb4.mono O.out.1.bel.size))
        clear hb4
        go_wp2_with fail
        go_ret
        exact ⟨rfl, B4.out⟩
      · have h9 : decide (i < l.length) = true := decide_eq_true h1
        obtain ⟨u, hu⟩ : ∃ u, l[i]? = some u := ⟨l[i], List.getElem?_eq_getElem h1⟩
        obtain ⟨b4, o4, cs0, rfl, hb4, _, rfl, hcell⟩ := Els.at_ Y.out hu
        have f0 := (hown.bel.cell (p := ⟨b4, o4 + i, none⟩) hb4).trans (by simpa using hcell 0 _ rfl)
        have k0 : (0 : Int) ≤ (i : Int) := by omega
        have k1 : (i : Int) < (l.length : Int) := by omega
        have HI := hid (And.intro hik h1)
        clear hown hsim hok hok2 hu hcell hb4
        go_upto_if 45 with fail
        go_cut [8] from 42 to 45 (fun v W => v = .int .i64 (nOf u : Int) ∧ wr = W)
        case first =>
          cases u
          all_goals
            go_wp2_with fail
            go_meet
            exact ⟨rfl, rfl⟩
        case rest =>
          obtain ⟨rfl, rfl⟩ := hcut
          have hsz := sized_zeros u
          have hnn : nOf u ≤ 64 ∧ 0 < nOf u := by cases u <;> simp [nOf]
          have hmk := run_make_int (nOf u) (by omega)
          have hzl : (zerosL (nOf u)).length = nOf u := by simp [zerosL]
          have HZ := hid (And.intro hsz hzl)
          generalize nOf u = n at *
          generalize sdOf u = sd at *
          generalize baseOf u = base at *
          clear hsz hzl f0
          go_wp2_with fail
          have hal : Below wr.heap.size wr (wr.alloc (.cells ((zerosL n).map intV).toArray 3)) := (Below.refl _ _).alloc (Nat.le_refl _) _
          have hx5 := noff_new (n := n) (l := zerosL n) (F := F) (Blk.new wr 3 ((zerosL n).map intV).toArray) rfl HZ.out.2 (fun h => by have := (rd_coder b1).there _ _ _ _ O.out.1.l h; omega)
          have hx6 := noff_new (n := n) (l := zerosL n) (F := G) (Blk.new wr 3 ((zerosL n).map intV).toArray) rfl HZ.out.2 (fun h => by have := (xr_coder b2 db).there _ _ _ _ O.out.1.r h; omega)
          have O3 := hid (And.intro (O.out.1.below (rd_coder b1) (xr_coder b2 db) hal) (And.intro hx5 hx6))
          clear hal hx5 hx6
          generalize wr.alloc (.cells ((zerosL n).map intV).toArray 3) = w5 at *
          have hG5 : ∀ k, G k → k < w5.heap.size := fun k hk => (xr_coder b2 db).there _ _ _ _ O3.out.1.r hk
          refine (rcode b1 sd base _ (zerosL n) HZ.out.1 (zeros_in n) s _ F m (by exact O3.out.1.l) O.out.2.2.1 (by omega) (by exact O3.out.2.1)).mono ?_
          rintro e w6 ⟨F6, hcw, hans⟩
          obtain ⟨a, ev, rfl⟩ := ans_form hans
          obtain ⟨m6, hm6, hok6⟩ := ok_square (rd_coder b1) HZ.out.1 s m O.out.2.2.1
          have hsq := ans_square (M := rdM) HZ.out.1 s
          obtain ⟨m7, hm7, hok7⟩ := ok_square (xr_coder b2 db) HZ.out.1 t m2 O.out.2.2.2
          obtain ⟨hal1, hal2⟩ := rd_alike.run (squareA base (ordOf sd) (zerosL n)) (ctx_square base (by obtain ⟨_, h, _⟩ := ord_sized HZ.out.1; exact h) _ _) O.out.2.1
          have hx7 : NOff _ (zerosL n) w6 G := ⟨O3.out.2.2.n.keepO hcw.o O3.out.2.1.f, O3.out.2.2.f, fun k hk => Nat.lt_of_lt_of_le (O3.out.2.2.b k hk) hcw.o.size⟩
          have hT6 := O3.out.1.leftC (xr_coder b2 db) hcw
          have hFb : ∀ fb cs, Blk w6 fb 150 cs → ¬ G fb := fun fb cs hB => xr_no_fault hT6.r hB
          have T6 := hid (And.intro hT6 (And.intro hx7 (And.intro hG5 (And.intro hFb (And.intro hsq hans)))))
          have OKS := hid (And.intro hok6 (And.intro hok7 (And.intro hal1 hal2)))
          clear hcw hT6 hok6 hok7 hal1 hal2 hx7 hFb hsq hG5 hans
          rw [HZ.out.2] at T6
          go_wp2_with fail
          refine (rcode_any b2 (xr_coder b2 db) sd base _ (zerosL n) HZ.out.1 (zeros_in n) t _ G m2 (by exact T6.out.1.r) O.out.2.2.2 (by omega) (by exact T6.out.2.1)).mono ?_
          rintro e w7 ⟨G7, hcw7, hans7⟩
          rw [← deaf_square deaf_xr base (ordOf sd) (zerosL n) t] at hcw7 hans7
          rw [← OKS.out.2.2.1] at hans7
          obtain ⟨a', ev', c9, ec, ep, e1, e2, htold⟩ := told_of T6.out.2.2.2.2.1 T6.out.2.2.2.2.2 hans7 hcw7.o T6.out.2.2.1 T6.out.2.2.2.1
          obtain ⟨rfl, rfl⟩ : a = a' ∧ ev = ev' := by simpa using e1
          subst e2
          have T7 := hid (And.intro (T6.out.1.rightC (rd_coder b1) hcw7) (And.intro htold (And.intro (sqok_len T6.out.2.2.2.2.1) (And.intro OKS.out.1 (And.intro OKS.out.2.1 OKS.out.2.2.2)))))
          clear hcw7 hans7 htold e1 T6 OKS
          generalize (rdM.run (squareA base (ordOf sd) (zerosL n)) s).1 = r7 at *
          generalize (rdM.run (squareA base (ordOf sd) (zerosL n)) s).2 = s7 at *
          generalize (xrM.run (squareA base (ordOf sd) (zerosL n)) t).2 = t7 at *
          have hep : ∃ PA pn pc, ep = .slice PA pn pc := by
            rcases T7.out.2.1.2.2 with ⟨_, _, _, h⟩ | ⟨_, _, _, _, PA, pc, h, _⟩
            · exact ⟨_, _, _, h⟩
            · exact ⟨_, _, _, h⟩
          obtain ⟨PA, pn, pc, rfl⟩ := hep
          go_wp2_with fail
          have hal : Below w7.heap.size w7 (w7.alloc (.cells #[.int .i64 ec, .slice PA pn pc] 38)) := (Below.refl _ _).alloc (Nat.le_refl _) _
          have T8 := hid (And.intro (T7.out.1.below (rd_coder b1) (xr_coder b2 db) hal) (T7.out.2.1.below hal))
          have E8 := hid (Blk.new w7 38 #[.int .i64 ec, .slice PA pn pc])
          clear hal
          generalize w7.alloc (.cells #[.int .i64 ec, .slice PA pn pc] 38) = w8 at *
          generalize w7.heap.size = g8 at *
          obtain ⟨c0, c1⟩ := blk2E E8.out
          have c2 := xr_D T8.out.1.r
          have hnA : t7.d.at_ - t7.d.bs.length = s7.d.at_ - s7.d.bs.length := by
            have h := T7.out.2.2.2.2.2.d
            rw [h.at_, h.bs]
          have HOV := hid (fun W (h : AtRd b1 W F6 s7) => at_over b1 W F6 s7 h T7.out.2.2.2.1.P.len (by have := T7.out.2.2.2.1.d.at_; omega))
          have HROV := hid (fun W (h : AtXr b2 db W G7 t7) => xr_over b2 db W G7 t7 h (by have := T7.out.2.2.2.2.1.d.at_; omega))
          rw [hnA] at HROV
          generalize s7.d.at_ - s7.d.bs.length = nA at *
          clear hnA
          go_region_held_law (fun W => W.cell? ⟨g8, 0, none⟩ = some (.int .i64 ec) ∧ W.cell? ⟨g8, 1, none⟩ = some (.slice PA pn pc) ∧ W.cell? ⟨b2, 2, none⟩ = some (.pointer (some ⟨db, 0, none⟩)))
            (first | exact K12.out | exact K11.out | exact K10.out | exact K9.out | exact ⟨c0, c1, c2⟩)
            (first
              | (go_at_call 30
                 have hN := T11.out
                 refine (HROV.out _ (by exact hN.r)).mono ?_
                 rintro e w12 ⟨rfl, m12, rfl⟩
                 have T12 := hid (hN.read (rd_coder b1) (xr_coder b2 db) ((Only.refl _ _).drewN m12))
                 have K12 := hid K11.out
                 clear hN)
              | (go_at_call 29
                 have hN := T10.out
                 refine (HOV.out _ (by exact hN.1.l)).mono ?_
                 rintro e w11 ⟨rfl, m11, rfl⟩
                 have T11 := hid (hN.1.read (rd_coder b1) (xr_coder b2 db) ((Only.refl _ _).drewN m11))
                 have K11 := hid K10.out
                 clear hN)
              | (go_at_call 21
                 have hN := T9.out
                 refine (hN.2.1.err (by exact HG.out.1.below hN.1.bel HG.out.2)).mono ?_
                 rintro e w10 ⟨rfl, hb⟩
                 have T10 := hid (And.intro (hN.1.below (rd_coder b1) (xr_coder b2 db) hb) (hN.2.2.below hb hN.2.2.lt))
                 have K10 := hid (And.intro (blk2E T10.out.2).1 (And.intro (blk2E T10.out.2).2 (xr_D T10.out.1.r)))
                 clear hb hN)
              | (go_at_call 20
                 have hN := T8.out.1.below (rd_coder b1) (xr_coder b2 db) (Below.refl w8.heap.size w8).drew
                 have hM := T8.out.2.below (Below.refl w8.heap.size w8).drew
                 refine (ints_same _ _ r7.2 _ (by exact hM.1) (by exact hM.2.1) (by have := T7.out.2.2.1; omega)).mono ?_
                 rintro e w9 ⟨rfl, hb⟩
                 have T9 := hid (And.intro (hN.below (rd_coder b1) (xr_coder b2 db) hb) (And.intro (hM.below hb) ((E8.out.below (Below.refl w8.heap.size w8).drew E8.out.lt).below hb E8.out.lt)))
                 have K9 := hid (And.intro (blk2E T9.out.2.2).1 (And.intro (blk2E T9.out.2.2).2 (xr_D T9.out.1.r)))
                 clear hb hN hM)
              | fail)
          clear c0 c1 c2
          have h13 := T12.out
          rw [World.drewN_drewN] at h13
          have T13 := hid h13
          clear h13
          rcases T7.out.2.1.2.2 with ⟨_, hev, _, _⟩ | ⟨k9, _, _, hev, _⟩
          · subst hev
            go_wp2_with fail
            go_roundg (gk - 1)
            case measure => have := HI.out; omega
            case rel => exact ⟨i + 1, s7, t7, F6, G7, m6, m7, by have := HI.out; omega, by go_num, by simp only [decide_eq_true_eq] at h3; omega, T13.out, T7.out.2.2.2.2.2, by omega, T7.out.2.2.2.1, T7.out.2.2.2.2.1⟩
          · obtain ⟨tv, xv, hform⟩ := hev.form
            subst hform
            clear hev
            go_wp2_with fail
            refine (first14 _ (by exact HG.out.1.below T13.out.bel HG.out.2)).mono ?_
            rintro e w13 ⟨rfl, hb13⟩
            have B13 := hid (T13.out.bel.trans (hb13.mono T13.out.size))
            clear hb13
            go_wp2_with fail
            go_ret
            exact ⟨rfl, B13.out⟩
end Go.Proofs.YtnlfnknkiggejaaDoor
