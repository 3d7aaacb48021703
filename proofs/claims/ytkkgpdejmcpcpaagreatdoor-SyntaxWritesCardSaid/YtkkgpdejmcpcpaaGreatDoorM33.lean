/- Parts: XRSynG. -/
import Derived.Test.YtkkgpdejmcpcpaaGreatDoorM30
/- Chapter 20: the document's Code at a coder: a square of kind 2. -/
namespace Go.Proofs.YtkkgpdejmcpcpaaGreatDoor
open Go.RowKit
section
variable {σ : Type} {M : Mach σ} {At : World → (Nat → Prop) → σ → Prop} {Ok : σ → Nat → Prop}
set_option maxRecDepth 100000 in
set_option maxHeartbeats 8000000 in
theorem rc20_rd_2 (b : Nat) (H : IsCoder M 65 64 (.pointer (some ⟨b, 0, none⟩)) At Ok)
    (HR : ∀ W F s, At W F s → W.cell? ⟨b, 0, none⟩ = some (.bool true)) (AL : ∀ (sd base : Nat) (l : List Int), Sized l sd base → l.any lvOut = false → ∀ s, M.run (rsquareA base (ordOf sd) l) s = M.run (squareA base (ordOf sd) l) s)
    (key : Bool) (vv : Value) (s : SqS) (m0 m1 m2 m3 : Int) (lv v0 v1 v2 v3 : Value) (l0 l1 l2 l3 : List Int) (st : σ) (w : World) (F : Nat → Prop) (lim : Nat)
    (hn : SqArg w vv s m0 m1 m2 m3 lv v0 v1 v2 v3 l0 l1 l2 l3) (hs : At w F st) (ho : Ok st lim) (hl : lim + 100000 ≤ 1000000000)
    (hkk : (M.run (headA key 0) st).1 = 2) :
    Calls Tryz.prog 11 #[.pointer (some ⟨b, 0, none⟩), .bool key, vv] w (RSCodeRes M At w F (codeA key zeroS) st) := by
  have hvv := hn.num.v
  subst hvv
  have S := hid (And.intro hs (And.intro ho hl))
  have HC := hid (fun (sd base : Nat) (x : Value) (l : List Int) (h1 : Sized l sd base) (h2 : l.any lvOut = false) (s : σ) (w : World) (F : Nat → Prop) (lim : Nat) (h3 : At w F s) (h4 : Ok s lim) (h5 : lim + 10000 ≤ 1000000000) (h6 : NOff x l w F) => (rcode_any b H sd base x l h1 h2 s w F lim h3 h4 h5 h6).mono fun e w' hr => rcode_al (AL sd base l h1 h2) hr)
  have hts0 := RB.start (M := M) (Ok := Ok) (L := []) (k := s.kind) (mode := s.mode) (m0 := m0) (m1 := m1) (m2 := m2) (m3 := m3) (x := s.x) (y := s.y) (lv := lv) (v0 := v0) (v1 := v1) (v2 := v2) (v3 := v3) H S.out.1 (fun p hp => by cases hp)
  have hcr := HR _ _ _ hts0.c.c.a
  clear hts0 AL hs ho
  obtain ⟨pr, hpr⟩ : ∃ q, q = codeA key zeroS := ⟨_, rfl⟩
  rw [← hpr]
  have PR := hid (And.intro hpr hkk)
  clear hpr hkk hn
  have hmk64 := run_make_int 64 (by omega)
  rw [show ((64 : Nat) : Int) = 64 from rfl] at hmk64
  have hmk16 := run_make_int 16 (by omega)
  rw [show ((16 : Nat) : Int) = 16 from rfl] at hmk16
  have hts := RB.start (M := M) (Ok := Ok) (L := []) (k := 0) (mode := 0) (m0 := 0) (m1 := 0) (m2 := 0) (m3 := 0) (x := 0) (y := 0) (lv := .slice (some ⟨w.heap.size + 1 + 1 + 1, 0, none⟩) 64 64) (v0 := nilS) (v1 := nilS) (v2 := nilS) (v3 := nilS) H S.out.1 (fun p hp => by cases hp)
  have TS0 := hid ((hts.below H ((Below.refl _ _).alloc (Nat.le_refl _) (.cells ((zerosL 64).map intV).toArray 3))).box4 (ms := [0, 0, 0, 0]) (vs := []) (fun j _ => rfl) (fun j _ => (getD_zero4 nilS j).symm))
  have TS := hid (TS0.out.addL (v := .slice (some ⟨w.heap.size + 1 + 1 + 1, 0, none⟩) 64 64) (l := zerosL 64) (noff_new (n := 64) (Blk.newAt' _ _ _ (by simp)) rfl (by decide +kernel) (fun e => by have := H.there _ _ _ _ S.out.1 e; omega)) (fun k hk e => by
    have e2 : w.heap.size + 1 + 1 + 1 = k := by simpa [Value.ownBlock] using hk
    rcases e with e | e | e <;> omega))
  clear hts TS0
  unfold sqV
  go_enter Tryz.func11, Tryz.ntmps11
  go_wp2_with fail
  clear hcr
  generalize ((((w.alloc _).alloc _).alloc _).alloc _ : World) = wq at *
  go_loopg [8] 4 (fun j iv wr => ∃ (i : Nat) (vs : List Value) (L : List (Value × List Int)), i + j = 4 ∧ iv = .int .i64 i ∧ vs.length = i ∧ (∀ j, j < i → (vs.getD j nilS, zerosL 16) ∈ L) ∧ (.slice (some ⟨w.heap.size + 1 + 1 + 1, 0, none⟩) 64 64, zerosL 64) ∈ L ∧
    RB At w F 0 0 [0, 0, 0, 0] 0 0 (.slice (some ⟨w.heap.size + 1 + 1 + 1, 0, none⟩) 64 64) vs L st wr F)
  case atStart => exact ⟨0, [], _, by omega, rfl, rfl, fun j hj => by omega, List.mem_cons_self, TS.out⟩
  case' round =>
    obtain ⟨i, vs, L, hij, rfl, hvs, hvl, hLl, htq⟩ := hrel
    have X := hid (And.intro hvs (And.intro hvl (And.intro hLl htq)))
    have IJ := hid hij
    rcases (show i < 4 ∨ i = 4 by omega) with hi | rfl
    · have hk0 : (0 : Int) ≤ (i : Int) := by omega
      have hk4 : (i : Int) < 4 := by omega
      have hd4 : decide ((i : Int) < 4) = true := by simp; omega
      have hcc := htq.box.cs i hi
      have hcf := htq.box.frozen (9 + i)
      have hal : Below wr.heap.size wr (wr.alloc (.cells ((zerosL 16).map intV).toArray 3)) := (Below.refl _ _).alloc (Nat.le_refl _) _
      have hcc2 := (htq.box.below hal).cs i hi
      have hcf2 := (htq.box.below hal).frozen (9 + i)
      have Y := hid (htq.addS H i hvs.symm hi)
      have HI := hid hi
      clear hvs hvl hLl htq hal hi hij
      go_wp2_with fail
      go_roundg (gk - 1)
      case measure => have := IJ.out; have := HI.out; omega
      case rel =>
        refine ⟨i + 1, _, _, by have := IJ.out; have := HI.out; omega, by go_num, ?_, fun j hj => ?_, List.mem_cons_of_mem _ X.out.2.2.1, Y.out⟩
        · rw [List.length_append, X.out.1]; rfl
        · rw [getD_snoc, X.out.1]
          by_cases e : j = i
          · rw [if_pos e]; exact List.mem_cons_self
          · rw [if_neg e]; exact List.mem_cons_of_mem _ (X.out.2.1 j (by omega))
    obtain ⟨pm0, pm1, pm2, pm3, plv, pv0, pv1, pv2, pv3, pl0, pl1, pl2, pl3, ps, P⟩ : ∃ (m0 m1 m2 m3 : Int) (lv v0 v1 v2 v3 : Value) (l0 l1 l2 l3 : List Int) (s : SqS), Hid (RP M At w F pr key st 2 L s m0 m1 m2 m3 lv v0 v1 v2 v3 l0 l1 l2 l3 wr) := by
        obtain ⟨u0, u1, u2, u3, hu⟩ : ∃ u0 u1 u2 u3, vs = [u0, u1, u2, u3] := by
          match vs, hvs with
          | [a, b, c, d], _ => exact ⟨a, b, c, d, rfl⟩
        subst hu
        have hz : (zerosL 16).length = 16 ∧ (zerosL 16).any lvOut = false := ⟨by decide +kernel, by decide +kernel⟩
        refine ⟨0, 0, 0, 0, _, u0, u1, u2, u3, zerosL 16, zerosL 16, zerosL 16, zerosL 16, zeroS, hid ⟨PR.out.1, htq, rfl, rfl, ⟨by decide, by decide⟩, PR.out.2, fun _ p hp => ?_, fun _ => ⟨hLl, by decide +kernel, by decide +kernel⟩⟩⟩
        simp only [List.mem_cons, List.not_mem_nil, or_false] at hp
        rcases hp with rfl | rfl | rfl | rfl
        · exact ⟨hvl 0 (by omega), hz⟩
        · exact ⟨hvl 1 (by omega), hz⟩
        · exact ⟨hvl 2 (by omega), hz⟩
        · exact ⟨hvl 3 (by omega), hz⟩
    clear X hvs hvl hLl htq hij IJ PR hmk64 hmk16 TS
    have hd4 : decide ((4 : Int) < 4) = false := rfl
    have hbk := P.out.t.box.c0
    go_wp2_with fail
    obtain ⟨st6, hd⟩ : ∃ st6, M.run (headA key ps.kind) st = (2, st6) := ⟨_, Prod.ext P.out.hd rfl⟩
    have HKD : Calls Tryz.prog 39 #[.pointer (some ⟨b, 0, none⟩), .bool key, .int .i64 ps.kind] wr fun e w' => e = .returned (.int .i64 2) ∧ Moved At wr F st6 w' := by
      have h := rhead_any b H key ps.kind st _ F lim P.out.t.c.c.a S.out.2.1 (by omega)
      rw [hd] at h
      exact h
    refine HKD.mono ?_
    clear HKD
    rintro e w6 ⟨rfl, hm6⟩
    obtain ⟨F6, c6⟩ := CW.of_moved hm6
    obtain ⟨n6, hn6, hok6⟩ := H.okRun (headA key ps.kind) 3 (ctx_head _ _) (most_head _ _) st lim S.out.2.1
    rw [hd] at hok6
    have U := hid (RU.of H P.out c6 hd)
    have OK6 := hid (And.intro hok6 (show n6 ≤ lim + 100 by omega))
    clear c6 hd hok6 hn6 hbk hm6

    have hb1 := U.out.t.box.c1
    go_wp2_with fail
    generalize ((w6.alloc _).alloc _ : World) = wt at *
    generalize w6.heap.size = ob at *
    refine (rmode_any b H ps.mode st6 _ F6 n6 (by exact U.out.t.c.c.a) OK6.out.1 (by have := OK6.out.2; omega)).mono ?_
    rintro e w9 ⟨rfl, hm9⟩
    obtain ⟨F9, hq9⟩ := U.out.t.moved hm9
    have hp9 := hq9.putO H 1 (.int .i64 (M.mode ps.mode st6).1) (hq9.out.put1 _)
    have P9 := hid hp9
    have hoc := hq9.out.c1
    have hof := hq9.out.frozen 1
    have hb8 := hp9.box.c8
    have ho0 := hp9.out.c0
    obtain ⟨n9, hn9, hok9⟩ := ok_mode H ps.mode st6 n6 OK6.out.1
    have OK9 := hid (And.intro hok9 (show n9 ≤ lim + 300 by have := OK6.out.2; omega))
    clear hm9 hq9 hp9 hok9 hn9 hb1
    obtain ⟨w10, hw10⟩ : ∃ q, q = w9.setCell ⟨ob, 1, none⟩ (.int .i64 (M.mode ps.mode st6).1) := ⟨_, rfl⟩
    go_wp2_with fail
    rw [← hw10] at P9
    rw [← hw10]
    clear hw10 hoc hof hb8 ho0

    have hsd : Sized ps.large 8 39 := .inr ⟨rfl, rfl, (U.out.e12 (.inr rfl)).2.1⟩
    have hsqok := ans_square (M := M) hsd (M.mode ps.mode st6).2
    obtain ⟨n11, hn11, hok11⟩ := ok_square H hsd (M.mode ps.mode st6).2 n9 OK9.out.1
    rw [(U.out.e12 (.inr rfl)).2.1] at hsqok
    have SD := hid hsd
    have SO := hid hsqok
    clear hsd hsqok hok11 hn11
    refine (HC.out 8 39 plv ps.large SD.out (U.out.e12 (.inr rfl)).2.2 (M.mode ps.mode st6).2 _ F9 n9 (by exact P9.out.c.c.a) OK9.out.1 (by have := OK9.out.2; omega) (by exact (P9.out.c.ls _ (U.out.e12 (.inr rfl)).1).1)).mono ?_
    rintro e w11 ⟨F11, hcw, hans⟩
    have hq := P9.out.code hcw
    obtain ⟨r, t, hr⟩ : ∃ r t, M.run (squareA 39 (ordOf 8) ps.large) (M.mode ps.mode st6).2 = (r, t) := ⟨_, _, rfl⟩
    have hso := SO.out
    rw [hr] at hq hans hso
    have HRR := hid hr
    clear hr hcw SO SD

    rcases rsq_ans hso hans with ⟨o, g, rfl, hlen, rfl, hbo⟩ | ⟨i5, pv, rfl, rfl, hst⟩
    · have hlst : Lst w (.slice (some ⟨g, 0, none⟩) 64 64) o w11 F11 := Lst.earlier (w0 := w10) (.inr ⟨g, by rw [hlen], hbo⟩) P9.out.c.c.o.size
      have hgE : ∀ k, (Value.slice (some ⟨g, 0, none⟩) 64 64).ownBlock = some k → ¬ tailE w ob k := fun k hk e => by
        have e2 : g = k := by simpa [Value.ownBlock] using hk
        have := (P9.out.c.e k e).2.1
        have := hbo.lo
        omega
      have hp := (hq.addD hlst hgE).putO H 8 (.slice (some ⟨g, 0, none⟩) 64 64) (hq.out.put8 _)
      have TE := hid (hp.putE H 0 nilS)
      have oc8 := hq.out.c8
      have of8 := hq.out.frozen 8
      obtain ⟨x0, x1⟩ := blk2R hp.er
      have fx0 := hp.er.frozen 0
      have fx1 := hp.er.frozen 1
      obtain ⟨x2, x3⟩ := blk2R hq.er
      have fx2 := hq.er.frozen 0
      have fx3 := hq.er.frozen 1
      have HL := hid hlst
      clear hp hq hlst hgE hbo hlen hso hans
      unfold errA
      go_wp2_with fail
      clear oc8 of8 x0 x1 fx0 fx1 x2 x3 fx2 fx3
      go_loopg [12] 0 (fun j iv wr => iv = .int .i64 0 ∧ RT At w F ob ps.kind ps.mode [pm0, pm1, pm2, pm3] ps.x ps.y plv [pv0, pv1, pv2, pv3] L [(.slice (some ⟨g, 0, none⟩) 64 64, o)] 2 (M.mode ps.mode st6).1 [] 0 0 (.slice (some ⟨g, 0, none⟩) 64 64) [] 0 nilS t wr F11)
      case atStart => exact ⟨rfl, TE.out⟩
      case round =>
        obtain ⟨rfl, hT⟩ := hrel
        have T := hid hT
        clear hT TE
        have oc0 := T.out.out.c0
        obtain ⟨e0, e1⟩ := blk2R T.out.er
        go_wp2_with fail
        refine (err_ok 0 nilS _).mono ?_
        rintro e w9 ⟨rfl, h9⟩
        have T9 := hid (T.out.below H h9)
        clear h9 oc0 e0 e1
        obtain ⟨⟨o0, o1⟩, ⟨o2, o3, o4, o5⟩, ⟨o6, o7, o8⟩, o9, o10, o11, o12⟩ := T9.out.out.all4'
        obtain ⟨⟨⟨⟨r0, r1⟩, ⟨r2, r3, r4, r5⟩, ⟨r6, r7, r8⟩, r9, r10, r11, r12⟩, hfr⟩, ⟨q0, q1⟩, ⟨g0, g1⟩, e0, e1⟩ := T9.out.res13
        have f0 := hfr 0
        have f1 := hfr 1
        have f2 := hfr 2
        have f3 := hfr 3
        have f4 := hfr 4
        have f5 := hfr 5
        have f6 := hfr 6
        have f7 := hfr 7
        have f8 := hfr 8
        have f9 := hfr 9
        have f10 := hfr 10
        have f11 := hfr 11
        have f12 := hfr 12
        obtain ⟨hz1, hz2⟩ := fin_z T9.out.res T9.out.rer (by omega) 2 (M.mode ps.mode st6).1 0 0 0 0 0 0 0 (.slice (some ⟨g, 0, none⟩) 64 64) nilS nilS nilS nilS nilS
        obtain ⟨⟨z0, z1⟩, ⟨z2, z3, z4, z5⟩, ⟨z6, z7, z8⟩, z9, z10, z11, z12⟩ := hz1.all4
        obtain ⟨z13, z14⟩ := blk2R hz2
        have hne : ¬ (ob = w.heap.size) := by have := T9.out.lo; omega
        have hne2 : ¬ (w.heap.size = ob) := fun e => hne e.symm
        obtain ⟨y0, y1⟩ := blk2R (T9.out.er.keep (only13 w9 (w.heap.size + 1) 2 (M.mode ps.mode st6).1 0 0 0 0 0 0 (.slice (some ⟨g, 0, none⟩) 64 64) nilS nilS nilS nilS) (by show ¬ ob + 1 = w.heap.size + 1; omega))
        clear hz1 hz2 hfr
        go_wp2_with fail
        go_region
        go_wp2_with fail
        exact bodyPost_ret (v := .tuple #[sqV 2 (M.mode ps.mode st6).1 0 0 0 0 0 0 (.slice (some ⟨g, 0, none⟩) 64 64) nilS nilS nilS nilS, errA 0]) (by simp [sqV, errA, results, Tryz.results11, go_sem, z0, z1, z2, z3, z4, z5, z6, z7, z8, z9, z10, z11, z12, z13, z14]) rfl (by
          have hR : M.run pr st = ((none, { bareS 2 with mode := (M.mode ps.mode st6).1, large := o }), t) := by
            rw [U.out.pr]
            show M.run ((modeA ps.mode).bind fun m => (largeA ps.large).bind fun q => .ret (q.1, { bareS 2 with mode := m, large := q.2 })) st6 = _
            rw [run_bind, run_mode, run_bind, show largeA ps.large = squareA 39 (ordOf 8) ps.large from rfl, HRR.out]; rfl 
          have hfin0 := T9.out.c.fin H (r := w.heap.size + 1) (q := w.heap.size + 1 + 1) (.inl (.inr (.inl rfl))) (.inl (.inr (.inr rfl))) 2 (M.mode ps.mode st6).1 0 0 0 0 0 0 0 (.slice (some ⟨g, 0, none⟩) 64 64) nilS nilS nilS nilS nilS
          have hfin := hfin0.below H (Below.refl _ _).drew
          refine ⟨F11, by rw [hR]; exact hfin.c, ?_⟩
          rw [hR]
          have hl := (hfin.ds (.slice (some ⟨g, 0, none⟩) 64 64, o) (by simp)).1
          exact ⟨_, rfl, 0, 0, 0, 0, (.slice (some ⟨g, 0, none⟩) 64 64), nilS, nilS, nilS, nilS, [], [], [], [], rfl, rfl, rfl, hl, Lst.nil, Lst.nil, Lst.nil, Lst.nil⟩)

    · have hp := hq.putO H 8 nilS (hq.out.put8 _)
      have hs1 := hq.stepsO hst (IsSl.of _ _ _) sl_nil4 8 nilS
      obtain ⟨PA, pn, pc, rfl⟩ := hst.form
      have TE := hid (hp.putE H 3 (.slice PA pn pc))
      have SE := hid (hp.stepsE hs1 (IsSl.of _ _ _) 3 (.slice PA pn pc))
      have oc8 := hq.out.c8
      have of8 := hq.out.frozen 8
      obtain ⟨x0, x1⟩ := blk2R hp.er
      have fx0 := hp.er.frozen 0
      have fx1 := hp.er.frozen 1
      obtain ⟨x2, x3⟩ := blk2R hq.er
      have fx2 := hq.er.frozen 0
      have fx3 := hq.er.frozen 1
      clear hp hq hso hans hst hs1
      go_wp2_with fail
      clear oc8 of8 x0 x1 fx0 fx1 x2 x3 fx2 fx3
      go_loopg [12] 0 (fun j iv wr => iv = .int .i64 0 ∧ RT At w F ob ps.kind ps.mode [pm0, pm1, pm2, pm3] ps.x ps.y plv [pv0, pv1, pv2, pv3] L [] 2 (M.mode ps.mode st6).1 [] 0 0 nilS [] 3 (.slice PA pn pc) t wr F11 ∧ Steps wr (.slice PA pn pc) [(⟨#[99, 111, 101, 102]⟩, (i5 : Int))])
      case atStart => exact ⟨rfl, TE.out, SE.out⟩
      case round =>
        obtain ⟨rfl, hT, hS⟩ := hrel
        have T := hid hT
        have ST := hid hS
        clear hT TE hS SE
        have oc0 := T.out.out.c0
        obtain ⟨e0, e1⟩ := blk2R T.out.er
        go_wp2_with fail
        refine (err_ok 3 (.slice PA pn pc) _).mono ?_
        rintro e w12 ⟨rfl, h12⟩
        have T12 := hid (T.out.below H h12)
        have ST12 := hid (ST.out.below h12)
        have oc12 := T12.out.out.c0
        obtain ⟨e2, e3⟩ := blk2R T12.out.er
        clear h12 oc0 e0 e1
        go_wp2_with fail
        refine (kin_any _ _ 3 _ _ _ (by exact ST12.out) (by decide) (by simp)).mono ?_
        rintro e w13 ⟨pv2, rfl, hst2, _, h13⟩
        obtain ⟨PA2, pn2, pc2, rfl⟩ := hst2.form
        have T13 := hid (T12.out.below H h13)
        have ST13 := hid hst2
        clear h13 hst2 oc12 e2 e3
        obtain ⟨⟨⟨⟨r0, r1⟩, ⟨r2, r3, r4, r5⟩, ⟨r6, r7, r8⟩, r9, r10, r11, r12⟩, hfr⟩, ⟨q0, q1⟩, ⟨g0, g1⟩, e0, e1⟩ := T13.out.res13
        have f0 := hfr 0
        have f1 := hfr 1
        have f2 := hfr 2
        have f3 := hfr 3
        have f4 := hfr 4
        have f5 := hfr 5
        have f6 := hfr 6
        have f7 := hfr 7
        have f8 := hfr 8
        have f9 := hfr 9
        have f10 := hfr 10
        have f11 := hfr 11
        have f12 := hfr 12
        obtain ⟨hz1, hz2⟩ := fin_z T13.out.res T13.out.rer (by omega) 0 0 0 0 0 0 0 0 3 nilS nilS nilS nilS nilS (.slice PA2 pn2 pc2)
        obtain ⟨⟨z0, z1⟩, ⟨z2, z3, z4, z5⟩, ⟨z6, z7, z8⟩, z9, z10, z11, z12⟩ := hz1.all4
        obtain ⟨z13, z14⟩ := blk2R hz2
        clear hz1 hz2 hfr
        go_wp2_with fail
        exact bodyPost_ret (v := .tuple #[zeroV, .agg #[.int .i64 3, .slice PA2 pn2 pc2]]) (by simp [sqV, results, Tryz.results11, go_sem, z0, z1, z2, z3, z4, z5, z6, z7, z8, z9, z10, z11, z12, z13, z14]) rfl (by
          have hR : M.run pr st = ((some i5, { bareS 2 with mode := (M.mode ps.mode st6).1, large := [] }), t) := by
            rw [U.out.pr]
            show M.run ((modeA ps.mode).bind fun m => (largeA ps.large).bind fun q => .ret (q.1, { bareS 2 with mode := m, large := q.2 })) st6 = _
            rw [run_bind, run_mode, run_bind, show largeA ps.large = squareA 39 (ordOf 8) ps.large from rfl, HRR.out]; rfl
          have hfin := T13.out.c.fin H (r := w.heap.size + 1) (q := w.heap.size + 1 + 1) (.inl (.inr (.inl rfl))) (.inl (.inr (.inr rfl))) 0 0 0 0 0 0 0 0 3 nilS nilS nilS nilS nilS (.slice PA2 pn2 pc2)
          refine ⟨F11, by rw [hR]; exact hfin.c, ?_⟩
          rw [hR]
          exact ⟨_, rfl, T13.out.fin_bad ST13.out 3 (.slice PA2 pn2 pc2) (IsSl.of _ _ _)⟩)
set_option maxRecDepth 100000 in
set_option maxHeartbeats 8000000 in
theorem rc20_wr_2 (b : Nat) (H : IsCoder M 65 64 (.pointer (some ⟨b, 0, none⟩)) At Ok)
    (HR : ∀ W F s, At W F s → W.cell? ⟨b, 0, none⟩ = some (.bool false)) (AL : ∀ (sd base : Nat) (l : List Int), Sized l sd base → l.any lvOut = false → ∀ s, M.run (rsquareA base (ordOf sd) l) s = M.run (squareA base (ordOf sd) l) s)
    (key : Bool) (vv : Value) (s : SqS) (m0 m1 m2 m3 : Int) (lv v0 v1 v2 v3 : Value) (l0 l1 l2 l3 : List Int) (st : σ) (w : World) (F : Nat → Prop) (lim : Nat)
    (hn : SqArg w vv s m0 m1 m2 m3 lv v0 v1 v2 v3 l0 l1 l2 l3) (hs : At w F st) (ho : Ok st lim) (hl : lim + 100000 ≤ 1000000000)
    (hright : RightS key s) (hecho : Echo M) (h3 : s.kind = 3 → ∀ p ∈ [(v0, l0), (v1, l1), (v2, l2), (v3, l3)], NOff p.1 p.2 w F) (h12 : s.kind = 1 ∨ s.kind = 2 → NOff lv s.large w F) (hkk : s.kind = 2) :
    Calls Tryz.prog 11 #[.pointer (some ⟨b, 0, none⟩), .bool key, vv] w (RSCodeRes M At w F (codeA key s) st) := by
  have hvv := hn.num.v
  have hms := hn.num.m
  have hsm := hn.sm
  have HAS := hid (fun W (hb : Below w.heap.size w W) => rasks_any key vv s m0 m1 m2 m3 lv v0 v1 v2 v3 l0 l1 l2 l3 W (hn.below hb))
  rw [hright.ask] at HAS
  subst hvv
  have S := hid (And.intro hs (And.intro ho hl))
  have HC := hid (fun (sd base : Nat) (x : Value) (l : List Int) (h1 : Sized l sd base) (h2 : l.any lvOut = false) (s : σ) (w : World) (F : Nat → Prop) (lim : Nat) (h3 : At w F s) (h4 : Ok s lim) (h5 : lim + 10000 ≤ 1000000000) (h6 : NOff x l w F) => (rcode_any b H sd base x l h1 h2 s w F lim h3 h4 h5 h6).mono fun e w' hr => rcode_al (AL sd base l h1 h2) hr)
  have hts0 := RB.start (M := M) (Ok := Ok) (L := []) (k := s.kind) (mode := s.mode) (m0 := m0) (m1 := m1) (m2 := m2) (m3 := m3) (x := s.x) (y := s.y) (lv := lv) (v0 := v0) (v1 := v1) (v2 := v2) (v3 := v3) H S.out.1 (fun p hp => by cases hp)
  have hcr := HR _ _ _ hts0.c.c.a
  clear hts0 AL hs ho
  obtain ⟨pr, hpr⟩ : ∃ q, q = codeA key s := ⟨_, rfl⟩
  rw [← hpr]
  obtain ⟨L, hL1, hL3, hL12⟩ : ∃ L : List (Value × List Int), (∀ p ∈ L, NOff p.1 p.2 w F) ∧ (s.kind = 3 → ∀ p ∈ [(v0, l0), (v1, l1), (v2, l2), (v3, l3)], p ∈ L) ∧ (s.kind = 1 ∨ s.kind = 2 → (lv, s.large) ∈ L) := by
    by_cases e3 : s.kind = 3
    · exact ⟨_, h3 e3, fun _ p hp => hp, fun e => by omega⟩
    · by_cases e12 : s.kind = 1 ∨ s.kind = 2
      · exact ⟨[(lv, s.large)], fun p hp => by rw [List.mem_singleton.1 hp]; exact h12 e12, fun e => absurd e e3, fun _ => by simp⟩
      · exact ⟨[], fun p hp => (by cases hp), fun e => absurd e e3, fun e => absurd e e12⟩
  have hts := RB.start (M := M) (Ok := Ok) (L := L) (k := s.kind) (mode := s.mode) (m0 := m0) (m1 := m1) (m2 := m2) (m3 := m3) (x := s.x) (y := s.y) (lv := lv) (v0 := v0) (v1 := v1) (v2 := v2) (v3 := v3) H S.out.1 hL1
  have hbt : Below w.heap.size w (((w.alloc (.cells #[.int .i64 s.kind, .int .i64 s.mode, .int .i64 m0, .int .i64 m1, .int .i64 m2, .int .i64 m3, .int .i64 s.x, .int .i64 s.y, lv, v0, v1, v2, v3] 42)).alloc (.cells #[.int .i64 0, .int .i64 0, .int .i64 0, .int .i64 0, .int .i64 0, .int .i64 0, .int .i64 0, .int .i64 0, nilS, nilS, nilS, nilS, nilS] 42)).alloc (.cells #[.int .i64 0, nilS] 46)) := (((Below.refl _ _).alloc (Nat.le_refl _) _).alloc (by simp) _).alloc (by simp; omega) _
  have hhead : (M.run (headA key s.kind) st).1 = s.kind := by rw [hecho.run, say_head hright.k0 hright.k3 hright.key]
  have TS := hid (And.intro hts (And.intro hbt (And.intro (And.intro hms hsm) (And.intro hhead (And.intro hright (And.intro hL3 hL12))))))
  have PR := hid (And.intro hpr hkk)
  unfold sqV at HAS ⊢
  clear hpr hkk hts hbt hms hsm hL1 hL3 hL12 h3 h12 hn hright hhead hecho
  go_enter Tryz.func11, Tryz.ntmps11
  go_wp2_with fail
  clear hcr
  generalize (((w.alloc _).alloc _).alloc _ : World) = wq at *
  refine (HAS.out _ TS.out.2.1).mono ?_
  rintro e wr0 ⟨rfl, hbr0⟩
  have hal0 : Below wr0.heap.size wr0 (wr0.alloc (.cells #[.int .i64 0, nilS] 46)) := (Below.refl _ _).alloc (Nat.le_refl _) _
  have BR0 := hid (hbr0.trans (hal0.mono hbr0.size))
  clear hbr0 hal0
  unfold errA
  go_wp2_with fail
  refine (err_ok 0 nilS _).mono ?_
  rintro e wr ⟨rfl, hb4⟩
  have hbr := BR0.out.trans (hb4.mono BR0.out.size)
  obtain ⟨pm0, pm1, pm2, pm3, plv, pv0, pv1, pv2, pv3, pl0, pl1, pl2, pl3, ps, P⟩ : ∃ (m0 m1 m2 m3 : Int) (lv v0 v1 v2 v3 : Value) (l0 l1 l2 l3 : List Int) (s : SqS), Hid (RP M At w F pr key st 2 L s m0 m1 m2 m3 lv v0 v1 v2 v3 l0 l1 l2 l3 wr) := by
    obtain ⟨hts, _, ⟨hms, hsm⟩, hhead, hright, hL3, hL12⟩ := TS.out
    refine ⟨m0, m1, m2, m3, lv, v0, v1, v2, v3, l0, l1, l2, l3, s, hid ⟨PR.out.1, hts.below H hbr, hms, hsm, ⟨hright.k0, hright.k3⟩, hhead.trans PR.out.2, fun e p hp => ?_, fun e => ?_⟩⟩
    · have e := PR.out.2.trans e
      refine ⟨hL3 e p hp, (hright.three e).2 p.2 ?_⟩
      rw [hsm]
      simp only [List.mem_cons, List.not_mem_nil, or_false] at hp ⊢
      rcases hp with rfl | rfl | rfl | rfl <;> simp
    · have e := e.imp PR.out.2.trans PR.out.2.trans
      exact ⟨hL12 e, hright.large e⟩
  clear HAS TS hbr hb4 BR0 PR
  have hbk := P.out.t.box.c0
  go_wp2_with fail
  obtain ⟨st6, hd⟩ : ∃ st6, M.run (headA key ps.kind) st = (2, st6) := ⟨_, Prod.ext P.out.hd rfl⟩
  have HKD : Calls Tryz.prog 39 #[.pointer (some ⟨b, 0, none⟩), .bool key, .int .i64 ps.kind] wr fun e w' => e = .returned (.int .i64 2) ∧ Moved At wr F st6 w' := by
    have h := rhead_any b H key ps.kind st _ F lim P.out.t.c.c.a S.out.2.1 (by omega)
    rw [hd] at h
    exact h
  refine HKD.mono ?_
  clear HKD
  rintro e w6 ⟨rfl, hm6⟩
  obtain ⟨F6, c6⟩ := CW.of_moved hm6
  obtain ⟨n6, hn6, hok6⟩ := H.okRun (headA key ps.kind) 3 (ctx_head _ _) (most_head _ _) st lim S.out.2.1
  rw [hd] at hok6
  have U := hid (RU.of H P.out c6 hd)
  have OK6 := hid (And.intro hok6 (show n6 ≤ lim + 100 by omega))
  clear c6 hd hok6 hn6 hbk hm6

  have hb1 := U.out.t.box.c1
  go_wp2_with fail
  generalize ((w6.alloc _).alloc _ : World) = wt at *
  generalize w6.heap.size = ob at *
  refine (rmode_any b H ps.mode st6 _ F6 n6 (by exact U.out.t.c.c.a) OK6.out.1 (by have := OK6.out.2; omega)).mono ?_
  rintro e w9 ⟨rfl, hm9⟩
  obtain ⟨F9, hq9⟩ := U.out.t.moved hm9
  have hp9 := hq9.putO H 1 (.int .i64 (M.mode ps.mode st6).1) (hq9.out.put1 _)
  have P9 := hid hp9
  have hoc := hq9.out.c1
  have hof := hq9.out.frozen 1
  have hb8 := hp9.box.c8
  have ho0 := hp9.out.c0
  obtain ⟨n9, hn9, hok9⟩ := ok_mode H ps.mode st6 n6 OK6.out.1
  have OK9 := hid (And.intro hok9 (show n9 ≤ lim + 300 by have := OK6.out.2; omega))
  clear hm9 hq9 hp9 hok9 hn9 hb1
  obtain ⟨w10, hw10⟩ : ∃ q, q = w9.setCell ⟨ob, 1, none⟩ (.int .i64 (M.mode ps.mode st6).1) := ⟨_, rfl⟩
  go_wp2_with fail
  rw [← hw10] at P9
  rw [← hw10]
  clear hw10 hoc hof hb8 ho0

  have hsd : Sized ps.large 8 39 := .inr ⟨rfl, rfl, (U.out.e12 (.inr rfl)).2.1⟩
  have hsqok := ans_square (M := M) hsd (M.mode ps.mode st6).2
  obtain ⟨n11, hn11, hok11⟩ := ok_square H hsd (M.mode ps.mode st6).2 n9 OK9.out.1
  rw [(U.out.e12 (.inr rfl)).2.1] at hsqok
  have SD := hid hsd
  have SO := hid hsqok
  clear hsd hsqok hok11 hn11
  refine (HC.out 8 39 plv ps.large SD.out (U.out.e12 (.inr rfl)).2.2 (M.mode ps.mode st6).2 _ F9 n9 (by exact P9.out.c.c.a) OK9.out.1 (by have := OK9.out.2; omega) (by exact (P9.out.c.ls _ (U.out.e12 (.inr rfl)).1).1)).mono ?_
  rintro e w11 ⟨F11, hcw, hans⟩
  have hq := P9.out.code hcw
  obtain ⟨r, t, hr⟩ : ∃ r t, M.run (squareA 39 (ordOf 8) ps.large) (M.mode ps.mode st6).2 = (r, t) := ⟨_, _, rfl⟩
  have hso := SO.out
  rw [hr] at hq hans hso
  have HRR := hid hr
  clear hr hcw SO SD

  rcases rsq_ans hso hans with ⟨o, g, rfl, hlen, rfl, hbo⟩ | ⟨i5, pv, rfl, rfl, hst⟩
  · have hlst : Lst w (.slice (some ⟨g, 0, none⟩) 64 64) o w11 F11 := Lst.earlier (w0 := w10) (.inr ⟨g, by rw [hlen], hbo⟩) P9.out.c.c.o.size
    have hgE : ∀ k, (Value.slice (some ⟨g, 0, none⟩) 64 64).ownBlock = some k → ¬ tailE w ob k := fun k hk e => by
      have e2 : g = k := by simpa [Value.ownBlock] using hk
      have := (P9.out.c.e k e).2.1
      have := hbo.lo
      omega
    have hp := (hq.addD hlst hgE).putO H 8 (.slice (some ⟨g, 0, none⟩) 64 64) (hq.out.put8 _)
    have TE := hid (hp.putE H 0 nilS)
    have oc8 := hq.out.c8
    have of8 := hq.out.frozen 8
    obtain ⟨x0, x1⟩ := blk2R hp.er
    have fx0 := hp.er.frozen 0
    have fx1 := hp.er.frozen 1
    obtain ⟨x2, x3⟩ := blk2R hq.er
    have fx2 := hq.er.frozen 0
    have fx3 := hq.er.frozen 1
    have HL := hid hlst
    clear hp hq hlst hgE hbo hlen hso hans
    unfold errA
    go_wp2_with fail
    clear oc8 of8 x0 x1 fx0 fx1 x2 x3 fx2 fx3
    go_loopg [12] 0 (fun j iv wr => iv = .int .i64 0 ∧ RT At w F ob ps.kind ps.mode [pm0, pm1, pm2, pm3] ps.x ps.y plv [pv0, pv1, pv2, pv3] L [(.slice (some ⟨g, 0, none⟩) 64 64, o)] 2 (M.mode ps.mode st6).1 [] 0 0 (.slice (some ⟨g, 0, none⟩) 64 64) [] 0 nilS t wr F11)
    case atStart => exact ⟨rfl, TE.out⟩
    case round =>
      obtain ⟨rfl, hT⟩ := hrel
      have T := hid hT
      clear hT TE
      have oc0 := T.out.out.c0
      obtain ⟨e0, e1⟩ := blk2R T.out.er
      go_wp2_with fail
      refine (err_ok 0 nilS _).mono ?_
      rintro e w9 ⟨rfl, h9⟩
      have T9 := hid (T.out.below H h9)
      clear h9 oc0 e0 e1
      obtain ⟨⟨o0, o1⟩, ⟨o2, o3, o4, o5⟩, ⟨o6, o7, o8⟩, o9, o10, o11, o12⟩ := T9.out.out.all4'
      obtain ⟨⟨⟨⟨r0, r1⟩, ⟨r2, r3, r4, r5⟩, ⟨r6, r7, r8⟩, r9, r10, r11, r12⟩, hfr⟩, ⟨q0, q1⟩, ⟨g0, g1⟩, e0, e1⟩ := T9.out.res13
      have f0 := hfr 0
      have f1 := hfr 1
      have f2 := hfr 2
      have f3 := hfr 3
      have f4 := hfr 4
      have f5 := hfr 5
      have f6 := hfr 6
      have f7 := hfr 7
      have f8 := hfr 8
      have f9 := hfr 9
      have f10 := hfr 10
      have f11 := hfr 11
      have f12 := hfr 12
      obtain ⟨hz1, hz2⟩ := fin_z T9.out.res T9.out.rer (by omega) 2 (M.mode ps.mode st6).1 0 0 0 0 0 0 0 (.slice (some ⟨g, 0, none⟩) 64 64) nilS nilS nilS nilS nilS
      obtain ⟨⟨z0, z1⟩, ⟨z2, z3, z4, z5⟩, ⟨z6, z7, z8⟩, z9, z10, z11, z12⟩ := hz1.all4
      obtain ⟨z13, z14⟩ := blk2R hz2
      have hne : ¬ (ob = w.heap.size) := by have := T9.out.lo; omega
      have hne2 : ¬ (w.heap.size = ob) := fun e => hne e.symm
      obtain ⟨y0, y1⟩ := blk2R (T9.out.er.keep (only13 w9 (w.heap.size + 1) 2 (M.mode ps.mode st6).1 0 0 0 0 0 0 (.slice (some ⟨g, 0, none⟩) 64 64) nilS nilS nilS nilS) (by show ¬ ob + 1 = w.heap.size + 1; omega))
      clear hz1 hz2 hfr
      go_wp2_with fail
      go_region
      go_wp2_with fail
      exact bodyPost_ret (v := .tuple #[sqV 2 (M.mode ps.mode st6).1 0 0 0 0 0 0 (.slice (some ⟨g, 0, none⟩) 64 64) nilS nilS nilS nilS, errA 0]) (by simp [sqV, errA, results, Tryz.results11, go_sem, z0, z1, z2, z3, z4, z5, z6, z7, z8, z9, z10, z11, z12, z13, z14]) rfl (by
        have hR : M.run pr st = ((none, { bareS 2 with mode := (M.mode ps.mode st6).1, large := o }), t) := by
          rw [U.out.pr]
          show M.run ((modeA ps.mode).bind fun m => (largeA ps.large).bind fun q => .ret (q.1, { bareS 2 with mode := m, large := q.2 })) st6 = _
          rw [run_bind, run_mode, run_bind, show largeA ps.large = squareA 39 (ordOf 8) ps.large from rfl, HRR.out]; rfl 
        have hfin0 := T9.out.c.fin H (r := w.heap.size + 1) (q := w.heap.size + 1 + 1) (.inl (.inr (.inl rfl))) (.inl (.inr (.inr rfl))) 2 (M.mode ps.mode st6).1 0 0 0 0 0 0 0 (.slice (some ⟨g, 0, none⟩) 64 64) nilS nilS nilS nilS nilS
        have hfin := hfin0.below H (Below.refl _ _).drew
        refine ⟨F11, by rw [hR]; exact hfin.c, ?_⟩
        rw [hR]
        have hl := (hfin.ds (.slice (some ⟨g, 0, none⟩) 64 64, o) (by simp)).1
        exact ⟨_, rfl, 0, 0, 0, 0, (.slice (some ⟨g, 0, none⟩) 64 64), nilS, nilS, nilS, nilS, [], [], [], [], rfl, rfl, rfl, hl, Lst.nil, Lst.nil, Lst.nil, Lst.nil⟩)

  · have hp := hq.putO H 8 nilS (hq.out.put8 _)
    have hs1 := hq.stepsO hst (IsSl.of _ _ _) sl_nil4 8 nilS
    obtain ⟨PA, pn, pc, rfl⟩ := hst.form
    have TE := hid (hp.putE H 3 (.slice PA pn pc))
    have SE := hid (hp.stepsE hs1 (IsSl.of _ _ _) 3 (.slice PA pn pc))
    have oc8 := hq.out.c8
    have of8 := hq.out.frozen 8
    obtain ⟨x0, x1⟩ := blk2R hp.er
    have fx0 := hp.er.frozen 0
    have fx1 := hp.er.frozen 1
    obtain ⟨x2, x3⟩ := blk2R hq.er
    have fx2 := hq.er.frozen 0
    have fx3 := hq.er.frozen 1
    clear hp hq hso hans hst hs1
    go_wp2_with fail
    clear oc8 of8 x0 x1 fx0 fx1 x2 x3 fx2 fx3
    go_loopg [12] 0 (fun j iv wr => iv = .int .i64 0 ∧ RT At w F ob ps.kind ps.mode [pm0, pm1, pm2, pm3] ps.x ps.y plv [pv0, pv1, pv2, pv3] L [] 2 (M.mode ps.mode st6).1 [] 0 0 nilS [] 3 (.slice PA pn pc) t wr F11 ∧ Steps wr (.slice PA pn pc) [(⟨#[99, 111, 101, 102]⟩, (i5 : Int))])
    case atStart => exact ⟨rfl, TE.out, SE.out⟩
    case round =>
      obtain ⟨rfl, hT, hS⟩ := hrel
      have T := hid hT
      have ST := hid hS
      clear hT TE hS SE
      have oc0 := T.out.out.c0
      obtain ⟨e0, e1⟩ := blk2R T.out.er
      go_wp2_with fail
      refine (err_ok 3 (.slice PA pn pc) _).mono ?_
      rintro e w12 ⟨rfl, h12⟩
      have T12 := hid (T.out.below H h12)
      have ST12 := hid (ST.out.below h12)
      have oc12 := T12.out.out.c0
      obtain ⟨e2, e3⟩ := blk2R T12.out.er
      clear h12 oc0 e0 e1
      go_wp2_with fail
      refine (kin_any _ _ 3 _ _ _ (by exact ST12.out) (by decide) (by simp)).mono ?_
      rintro e w13 ⟨pv2, rfl, hst2, _, h13⟩
      obtain ⟨PA2, pn2, pc2, rfl⟩ := hst2.form
      have T13 := hid (T12.out.below H h13)
      have ST13 := hid hst2
      clear h13 hst2 oc12 e2 e3
      obtain ⟨⟨⟨⟨r0, r1⟩, ⟨r2, r3, r4, r5⟩, ⟨r6, r7, r8⟩, r9, r10, r11, r12⟩, hfr⟩, ⟨q0, q1⟩, ⟨g0, g1⟩, e0, e1⟩ := T13.out.res13
      have f0 := hfr 0
      have f1 := hfr 1
      have f2 := hfr 2
      have f3 := hfr 3
      have f4 := hfr 4
      have f5 := hfr 5
      have f6 := hfr 6
      have f7 := hfr 7
      have f8 := hfr 8
      have f9 := hfr 9
      have f10 := hfr 10
      have f11 := hfr 11
      have f12 := hfr 12
      obtain ⟨hz1, hz2⟩ := fin_z T13.out.res T13.out.rer (by omega) 0 0 0 0 0 0 0 0 3 nilS nilS nilS nilS nilS (.slice PA2 pn2 pc2)
      obtain ⟨⟨z0, z1⟩, ⟨z2, z3, z4, z5⟩, ⟨z6, z7, z8⟩, z9, z10, z11, z12⟩ := hz1.all4
      obtain ⟨z13, z14⟩ := blk2R hz2
      clear hz1 hz2 hfr
      go_wp2_with fail
      exact bodyPost_ret (v := .tuple #[zeroV, .agg #[.int .i64 3, .slice PA2 pn2 pc2]]) (by simp [sqV, results, Tryz.results11, go_sem, z0, z1, z2, z3, z4, z5, z6, z7, z8, z9, z10, z11, z12, z13, z14]) rfl (by
        have hR : M.run pr st = ((some i5, { bareS 2 with mode := (M.mode ps.mode st6).1, large := [] }), t) := by
          rw [U.out.pr]
          show M.run ((modeA ps.mode).bind fun m => (largeA ps.large).bind fun q => .ret (q.1, { bareS 2 with mode := m, large := q.2 })) st6 = _
          rw [run_bind, run_mode, run_bind, show largeA ps.large = squareA 39 (ordOf 8) ps.large from rfl, HRR.out]; rfl
        have hfin := T13.out.c.fin H (r := w.heap.size + 1) (q := w.heap.size + 1 + 1) (.inl (.inr (.inl rfl))) (.inl (.inr (.inr rfl))) 0 0 0 0 0 0 0 0 3 nilS nilS nilS nilS nilS (.slice PA2 pn2 pc2)
        refine ⟨F11, by rw [hR]; exact hfin.c, ?_⟩
        rw [hR]
        exact ⟨_, rfl, T13.out.fin_bad ST13.out 3 (.slice PA2 pn2 pc2) (IsSl.of _ _ _)⟩)
end
end Go.Proofs.YtkkgpdejmcpcpaaGreatDoor

