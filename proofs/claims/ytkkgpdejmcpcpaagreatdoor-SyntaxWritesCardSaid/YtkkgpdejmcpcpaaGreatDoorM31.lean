/- Parts: XRSynE. -/
import Derived.Test.YtkkgpdejmcpcpaaGreatDoorM30
/- Chapter 20: the document's Code at a coder: a square of kind 0. -/
namespace Go.Proofs.YtkkgpdejmcpcpaaGreatDoor
open Go.RowKit
section
variable {σ : Type} {M : Mach σ} {At : World → (Nat → Prop) → σ → Prop} {Ok : σ → Nat → Prop}
set_option maxRecDepth 100000 in
set_option maxHeartbeats 8000000 in
theorem rc20_rd_0 (b : Nat) (H : IsCoder M 65 64 (.pointer (some ⟨b, 0, none⟩)) At Ok)
    (HR : ∀ W F s, At W F s → W.cell? ⟨b, 0, none⟩ = some (.bool true)) (AL : ∀ (sd base : Nat) (l : List Int), Sized l sd base → l.any lvOut = false → ∀ s, M.run (rsquareA base (ordOf sd) l) s = M.run (squareA base (ordOf sd) l) s)
    (key : Bool) (vv : Value) (s : SqS) (m0 m1 m2 m3 : Int) (lv v0 v1 v2 v3 : Value) (l0 l1 l2 l3 : List Int) (st : σ) (w : World) (F : Nat → Prop) (lim : Nat)
    (hn : SqArg w vv s m0 m1 m2 m3 lv v0 v1 v2 v3 l0 l1 l2 l3) (hs : At w F st) (ho : Ok st lim) (hl : lim + 100000 ≤ 1000000000)
    (hkk : (M.run (headA key 0) st).1 = 0) :
    Calls Tryz.prog 11 #[.pointer (some ⟨b, 0, none⟩), .bool key, vv] w (RSCodeRes M At w F (codeA key zeroS) st) := by
  have hvv := hn.num.v
  subst hvv
  have S := hid (And.intro hs (And.intro ho hl))
  have HC := hid (fun (sd base : Nat) (x : Value) (l : List Int) (h1 : Sized l sd base) (h2 : l.any lvOut = false) (s : σ) (w : World) (F : Nat → Prop) (lim : Nat) (h3 : At w F s) (h4 : Ok s lim) (h5 : lim + 10000 ≤ 1000000000) (h6 : NOff x l w F) => (rcode_any b H sd base x l h1 h2 s w F lim h3 h4 h5 h6).mono fun e w' hr => rcode_al (AL sd base l h1 h2) hr)
  have hts0 := RB.start (M := M) (Ok := Ok) (L := []) (k := s.kind) (mode := s.mode) (m0 := m0) (m1 := m1) (m2 := m2) (m3 := m3) (x := s.x) (y := s.y) (lv := lv) (v0 := v0) (v1 := v1) (v2 := v2) (v3 := v3) H S.out.1 (fun p hp => by cases hp)
  have hcr := HR _ _ _ hts0.c.c.a
  clear hts0 AL hs ho
  obtain ⟨pr, hpr⟩ : ∃ q, q = codeA key zeroS := ⟨_, rfl⟩
  rw [← hpr]
  have PR := hid (And.intro hpr hkk)
  clear hpr hkk hn
  have hmk64 := run_make_int 64 (by omega)
  rw [show ((64 : Nat) : Int) = 64 from rfl] at hmk64
  have hmk16 := run_make_int 16 (by omega)
  rw [show ((16 : Nat) : Int) = 16 from rfl] at hmk16
  have hts := RB.start (M := M) (Ok := Ok) (L := []) (k := 0) (mode := 0) (m0 := 0) (m1 := 0) (m2 := 0) (m3 := 0) (x := 0) (y := 0) (lv := .slice (some ⟨w.heap.size + 1 + 1 + 1, 0, none⟩) 64 64) (v0 := nilS) (v1 := nilS) (v2 := nilS) (v3 := nilS) H S.out.1 (fun p hp => by cases hp)
  have TS0 := hid ((hts.below H ((Below.refl _ _).alloc (Nat.le_refl _) (.cells ((zerosL 64).map intV).toArray 3))).box4 (ms := [0, 0, 0, 0]) (vs := []) (fun j _ => rfl) (fun j _ => (getD_zero4 nilS j).symm))
  have TS := hid (TS0.out.addL (v := .slice (some ⟨w.heap.size + 1 + 1 + 1, 0, none⟩) 64 64) (l := zerosL 64) (noff_new (n := 64) (Blk.newAt' _ _ _ (by simp)) rfl (by decide +kernel) (fun e => by have := H.there _ _ _ _ S.out.1 e; omega)) (fun k hk e => by
    have e2 : w.heap.size + 1 + 1 + 1 = k := by simpa [Value.ownBlock] using hk
    rcases e with e | e | e <;> omega))
  clear hts TS0
  unfold sqV
  go_enter Tryz.func11, Tryz.ntmps11
  go_wp2_with fail
  clear hcr
  generalize ((((w.alloc _).alloc _).alloc _).alloc _ : World) = wq at *
  go_loopg [8] 4 (fun j iv wr => ∃ (i : Nat) (vs : List Value) (L : List (Value × List Int)), i + j = 4 ∧ iv = .int .i64 i ∧ vs.length = i ∧ (∀ j, j < i → (vs.getD j nilS, zerosL 16) ∈ L) ∧ (.slice (some ⟨w.heap.size + 1 + 1 + 1, 0, none⟩) 64 64, zerosL 64) ∈ L ∧
    RB At w F 0 0 [0, 0, 0, 0] 0 0 (.slice (some ⟨w.heap.size + 1 + 1 + 1, 0, none⟩) 64 64) vs L st wr F)
  case atStart => exact ⟨0, [], _, by omega, rfl, rfl, fun j hj => by omega, List.mem_cons_self, TS.out⟩
  case' round =>
    obtain ⟨i, vs, L, hij, rfl, hvs, hvl, hLl, htq⟩ := hrel
    have X := hid (And.intro hvs (And.intro hvl (And.intro hLl htq)))
    have IJ := hid hij
    rcases (show i < 4 ∨ i = 4 by omega) with hi | rfl
    · have hk0 : (0 : Int) ≤ (i : Int) := by omega
      have hk4 : (i : Int) < 4 := by omega
      have hd4 : decide ((i : Int) < 4) = true := by simp; omega
      have hcc := htq.box.cs i hi
      have hcf := htq.box.frozen (9 + i)
      have hal : Below wr.heap.size wr (wr.alloc (.cells ((zerosL 16).map intV).toArray 3)) := (Below.refl _ _).alloc (Nat.le_refl _) _
      have hcc2 := (htq.box.below hal).cs i hi
      have hcf2 := (htq.box.below hal).frozen (9 + i)
      have Y := hid (htq.addS H i hvs.symm hi)
      have HI := hid hi
      clear hvs hvl hLl htq hal hi hij
      go_wp2_with fail
      go_roundg (gk - 1)
      case measure => have := IJ.out; have := HI.out; omega
      case rel =>
        refine ⟨i + 1, _, _, by have := IJ.out; have := HI.out; omega, by go_num, ?_, fun j hj => ?_, List.mem_cons_of_mem _ X.out.2.2.1, Y.out⟩
        · rw [List.length_append, X.out.1]; rfl
        · rw [getD_snoc, X.out.1]
          by_cases e : j = i
          · rw [if_pos e]; exact List.mem_cons_self
          · rw [if_neg e]; exact List.mem_cons_of_mem _ (X.out.2.1 j (by omega))
    obtain ⟨pm0, pm1, pm2, pm3, plv, pv0, pv1, pv2, pv3, pl0, pl1, pl2, pl3, ps, P⟩ : ∃ (m0 m1 m2 m3 : Int) (lv v0 v1 v2 v3 : Value) (l0 l1 l2 l3 : List Int) (s : SqS), Hid (RP M At w F pr key st 0 L s m0 m1 m2 m3 lv v0 v1 v2 v3 l0 l1 l2 l3 wr) := by
        obtain ⟨u0, u1, u2, u3, hu⟩ : ∃ u0 u1 u2 u3, vs = [u0, u1, u2, u3] := by
          match vs, hvs with
          | [a, b, c, d], _ => exact ⟨a, b, c, d, rfl⟩
        subst hu
        have hz : (zerosL 16).length = 16 ∧ (zerosL 16).any lvOut = false := ⟨by decide +kernel, by decide +kernel⟩
        refine ⟨0, 0, 0, 0, _, u0, u1, u2, u3, zerosL 16, zerosL 16, zerosL 16, zerosL 16, zeroS, hid ⟨PR.out.1, htq, rfl, rfl, ⟨by decide, by decide⟩, PR.out.2, fun _ p hp => ?_, fun _ => ⟨hLl, by decide +kernel, by decide +kernel⟩⟩⟩
        simp only [List.mem_cons, List.not_mem_nil, or_false] at hp
        rcases hp with rfl | rfl | rfl | rfl
        · exact ⟨hvl 0 (by omega), hz⟩
        · exact ⟨hvl 1 (by omega), hz⟩
        · exact ⟨hvl 2 (by omega), hz⟩
        · exact ⟨hvl 3 (by omega), hz⟩
    clear X hvs hvl hLl htq hij IJ PR hmk64 hmk16 TS
    have hd4 : decide ((4 : Int) < 4) = false := rfl
    have hbk := P.out.t.box.c0
    go_wp2_with fail
    obtain ⟨st6, hd⟩ : ∃ st6, M.run (headA key ps.kind) st = (0, st6) := ⟨_, Prod.ext P.out.hd rfl⟩
    have HKD : Calls Tryz.prog 39 #[.pointer (some ⟨b, 0, none⟩), .bool key, .int .i64 ps.kind] wr fun e w' => e = .returned (.int .i64 0) ∧ Moved At wr F st6 w' := by
      have h := rhead_any b H key ps.kind st _ F lim P.out.t.c.c.a S.out.2.1 (by omega)
      rw [hd] at h
      exact h
    refine HKD.mono ?_
    clear HKD
    rintro e w6 ⟨rfl, hm6⟩
    obtain ⟨F6, c6⟩ := CW.of_moved hm6
    obtain ⟨n6, hn6, hok6⟩ := H.okRun (headA key ps.kind) 3 (ctx_head _ _) (most_head _ _) st lim S.out.2.1
    rw [hd] at hok6
    have U := hid (RU.of H P.out c6 hd)
    have OK6 := hid (And.intro hok6 (show n6 ≤ lim + 100 by omega))
    clear c6 hd hok6 hn6 hbk hm6

    go_wp2_with fail
    generalize ((w6.alloc _).alloc _ : World) = wt at *
    generalize w6.heap.size = ob at *
    go_loopg [12] 0 (fun j iv wr => iv = .int .i64 0 ∧ RT At w F ob ps.kind ps.mode [pm0, pm1, pm2, pm3] ps.x ps.y plv [pv0, pv1, pv2, pv3] L [] 0 0 [] 0 0 nilS [] 0 nilS st6 wr F6)
    case atStart => exact ⟨rfl, U.out.t⟩
    case round =>
      obtain ⟨rfl, hT⟩ := hrel
      have T := hid hT
      clear hT
      have oc0 := T.out.out.c0
      obtain ⟨e0, e1⟩ := blk2R T.out.er
      go_wp2_with fail
      refine (err_ok 0 nilS _).mono ?_
      rintro e w9 ⟨rfl, h9⟩
      have T9 := hid (T.out.below H h9)
      clear h9 oc0 e0 e1
      obtain ⟨⟨o0, o1⟩, ⟨o2, o3, o4, o5⟩, ⟨o6, o7, o8⟩, o9, o10, o11, o12⟩ := T9.out.out.all4'
      obtain ⟨⟨⟨⟨r0, r1⟩, ⟨r2, r3, r4, r5⟩, ⟨r6, r7, r8⟩, r9, r10, r11, r12⟩, hfr⟩, ⟨q0, q1⟩, ⟨g0, g1⟩, e0, e1⟩ := T9.out.res13
      have f0 := hfr 0
      have f1 := hfr 1
      have f2 := hfr 2
      have f3 := hfr 3
      have f4 := hfr 4
      have f5 := hfr 5
      have f6 := hfr 6
      have f7 := hfr 7
      have f8 := hfr 8
      have f9 := hfr 9
      have f10 := hfr 10
      have f11 := hfr 11
      have f12 := hfr 12
      obtain ⟨hz1, hz2⟩ := fin_z T9.out.res T9.out.rer (by omega) 0 0 0 0 0 0 0 0 0 nilS nilS nilS nilS nilS nilS
      obtain ⟨⟨z0, z1⟩, ⟨z2, z3, z4, z5⟩, ⟨z6, z7, z8⟩, z9, z10, z11, z12⟩ := hz1.all4
      obtain ⟨z13, z14⟩ := blk2R hz2
      have hne : ¬ (ob = w.heap.size) := by have := T9.out.lo; omega
      have hne2 : ¬ (w.heap.size = ob) := fun e => hne e.symm
      obtain ⟨y0, y1⟩ := blk2R (T9.out.er.keep (only13 w9 (w.heap.size + 1) 0 0 0 0 0 0 0 0 nilS nilS nilS nilS nilS) (by show ¬ ob + 1 = w.heap.size + 1; omega))
      clear hz1 hz2 hfr
      go_wp2_with fail
      go_region
      go_wp2_with fail
      exact bodyPost_ret (v := .tuple #[sqV 0 0 0 0 0 0 0 0 nilS nilS nilS nilS nilS, errA 0]) (by simp [sqV, errA, results, Tryz.results11, go_sem, z0, z1, z2, z3, z4, z5, z6, z7, z8, z9, z10, z11, z12, z13, z14]) rfl (by
        have hR : M.run pr st = ((none, bareS 0), st6) := by rw [U.out.pr]; rfl 
        have hfin0 := T9.out.c.fin H (r := w.heap.size + 1) (q := w.heap.size + 1 + 1) (.inl (.inr (.inl rfl))) (.inl (.inr (.inr rfl))) 0 0 0 0 0 0 0 0 0 nilS nilS nilS nilS nilS nilS
        have hfin := hfin0.below H (Below.refl _ _).drew
        refine ⟨F6, by rw [hR]; exact hfin.c, ?_⟩
        rw [hR]
        exact ⟨_, rfl, 0, 0, 0, 0, nilS, nilS, nilS, nilS, nilS, [], [], [], [], rfl, rfl, rfl, Lst.nil, Lst.nil, Lst.nil, Lst.nil, Lst.nil⟩)
set_option maxRecDepth 100000 in
set_option maxHeartbeats 8000000 in
theorem rc20_wr_0 (b : Nat) (H : IsCoder M 65 64 (.pointer (some ⟨b, 0, none⟩)) At Ok)
    (HR : ∀ W F s, At W F s → W.cell? ⟨b, 0, none⟩ = some (.bool false)) (AL : ∀ (sd base : Nat) (l : List Int), Sized l sd base → l.any lvOut = false → ∀ s, M.run (rsquareA base (ordOf sd) l) s = M.run (squareA base (ordOf sd) l) s)
    (key : Bool) (vv : Value) (s : SqS) (m0 m1 m2 m3 : Int) (lv v0 v1 v2 v3 : Value) (l0 l1 l2 l3 : List Int) (st : σ) (w : World) (F : Nat → Prop) (lim : Nat)
    (hn : SqArg w vv s m0 m1 m2 m3 lv v0 v1 v2 v3 l0 l1 l2 l3) (hs : At w F st) (ho : Ok st lim) (hl : lim + 100000 ≤ 1000000000)
    (hright : RightS key s) (hecho : Echo M) (h3 : s.kind = 3 → ∀ p ∈ [(v0, l0), (v1, l1), (v2, l2), (v3, l3)], NOff p.1 p.2 w F) (h12 : s.kind = 1 ∨ s.kind = 2 → NOff lv s.large w F) (hkk : s.kind = 0) :
    Calls Tryz.prog 11 #[.pointer (some ⟨b, 0, none⟩), .bool key, vv] w (RSCodeRes M At w F (codeA key s) st) := by
  have hvv := hn.num.v
  have hms := hn.num.m
  have hsm := hn.sm
  have HAS := hid (fun W (hb : Below w.heap.size w W) => rasks_any key vv s m0 m1 m2 m3 lv v0 v1 v2 v3 l0 l1 l2 l3 W (hn.below hb))
  rw [hright.ask] at HAS
  subst hvv
  have S := hid (And.intro hs (And.intro ho hl))
  have HC := hid (fun (sd base : Nat) (x : Value) (l : List Int) (h1 : Sized l sd base) (h2 : l.any lvOut = false) (s : σ) (w : World) (F : Nat → Prop) (lim : Nat) (h3 : At w F s) (h4 : Ok s lim) (h5 : lim + 10000 ≤ 1000000000) (h6 : NOff x l w F) => (rcode_any b H sd base x l h1 h2 s w F lim h3 h4 h5 h6).mono fun e w' hr => rcode_al (AL sd base l h1 h2) hr)
  have hts0 := RB.start (M := M) (Ok := Ok) (L := []) (k := s.kind) (mode := s.mode) (m0 := m0) (m1 := m1) (m2 := m2) (m3 := m3) (x := s.x) (y := s.y) (lv := lv) (v0 := v0) (v1 := v1) (v2 := v2) (v3 := v3) H S.out.1 (fun p hp => by cases hp)
  have hcr := HR _ _ _ hts0.c.c.a
  clear hts0 AL hs ho
  obtain ⟨pr, hpr⟩ : ∃ q, q = codeA key s := ⟨_, rfl⟩
  rw [← hpr]
  obtain ⟨L, hL1, hL3, hL12⟩ : ∃ L : List (Value × List Int), (∀ p ∈ L, NOff p.1 p.2 w F) ∧ (s.kind = 3 → ∀ p ∈ [(v0, l0), (v1, l1), (v2, l2), (v3, l3)], p ∈ L) ∧ (s.kind = 1 ∨ s.kind = 2 → (lv, s.large) ∈ L) := by
    by_cases e3 : s.kind = 3
    · exact ⟨_, h3 e3, fun _ p hp => hp, fun e => by omega⟩
    · by_cases e12 : s.kind = 1 ∨ s.kind = 2
      · exact ⟨[(lv, s.large)], fun p hp => by rw [List.mem_singleton.1 hp]; exact h12 e12, fun e => absurd e e3, fun _ => by simp⟩
      · exact ⟨[], fun p hp => (by cases hp), fun e => absurd e e3, fun e => absurd e e12⟩
  have hts := RB.start (M := M) (Ok := Ok) (L := L) (k := s.kind) (mode := s.mode) (m0 := m0) (m1 := m1) (m2 := m2) (m3 := m3) (x := s.x) (y := s.y) (lv := lv) (v0 := v0) (v1 := v1) (v2 := v2) (v3 := v3) H S.out.1 hL1
  have hbt : Below w.heap.size w (((w.alloc (.cells #[.int .i64 s.kind, .int .i64 s.mode, .int .i64 m0, .int .i64 m1, .int .i64 m2, .int .i64 m3, .int .i64 s.x, .int .i64 s.y, lv, v0, v1, v2, v3] 42)).alloc (.cells #[.int .i64 0, .int .i64 0, .int .i64 0, .int .i64 0, .int .i64 0, .int .i64 0, .int .i64 0, .int .i64 0, nilS, nilS, nilS, nilS, nilS] 42)).alloc (.cells #[.int .i64 0, nilS] 46)) := (((Below.refl _ _).alloc (Nat.le_refl _) _).alloc (by simp) _).alloc (by simp; omega) _
  have hhead : (M.run (headA key s.kind) st).1 = s.kind := by rw [hecho.run, say_head hright.k0 hright.k3 hright.key]
  have TS := hid (And.intro hts (And.intro hbt (And.intro (And.intro hms hsm) (And.intro hhead (And.intro hright (And.intro hL3 hL12))))))
  have PR := hid (And.intro hpr hkk)
  unfold sqV at HAS ⊢
  clear hpr hkk hts hbt hms hsm hL1 hL3 hL12 h3 h12 hn hright hhead hecho
  go_enter Tryz.func11, Tryz.ntmps11
  go_wp2_with fail
  clear hcr
  generalize (((w.alloc _).alloc _).alloc _ : World) = wq at *
  refine (HAS.out _ TS.out.2.1).mono ?_
  rintro e wr0 ⟨rfl, hbr0⟩
  have hal0 : Below wr0.heap.size wr0 (wr0.alloc (.cells #[.int .i64 0, nilS] 46)) := (Below.refl _ _).alloc (Nat.le_refl _) _
  have BR0 := hid (hbr0.trans (hal0.mono hbr0.size))
  clear hbr0 hal0
  unfold errA
  go_wp2_with fail
  refine (err_ok 0 nilS _).mono ?_
  rintro e wr ⟨rfl, hb4⟩
  have hbr := BR0.out.trans (hb4.mono BR0.out.size)
  obtain ⟨pm0, pm1, pm2, pm3, plv, pv0, pv1, pv2, pv3, pl0, pl1, pl2, pl3, ps, P⟩ : ∃ (m0 m1 m2 m3 : Int) (lv v0 v1 v2 v3 : Value) (l0 l1 l2 l3 : List Int) (s : SqS), Hid (RP M At w F pr key st 0 L s m0 m1 m2 m3 lv v0 v1 v2 v3 l0 l1 l2 l3 wr) := by
    obtain ⟨hts, _, ⟨hms, hsm⟩, hhead, hright, hL3, hL12⟩ := TS.out
    refine ⟨m0, m1, m2, m3, lv, v0, v1, v2, v3, l0, l1, l2, l3, s, hid ⟨PR.out.1, hts.below H hbr, hms, hsm, ⟨hright.k0, hright.k3⟩, hhead.trans PR.out.2, fun e p hp => ?_, fun e => ?_⟩⟩
    · have e := PR.out.2.trans e
      refine ⟨hL3 e p hp, (hright.three e).2 p.2 ?_⟩
      rw [hsm]
      simp only [List.mem_cons, List.not_mem_nil, or_false] at hp ⊢
      rcases hp with rfl | rfl | rfl | rfl <;> simp
    · have e := e.imp PR.out.2.trans PR.out.2.trans
      exact ⟨hL12 e, hright.large e⟩
  clear HAS TS hbr hb4 BR0 PR
  have hbk := P.out.t.box.c0
  go_wp2_with fail
  obtain ⟨st6, hd⟩ : ∃ st6, M.run (headA key ps.kind) st = (0, st6) := ⟨_, Prod.ext P.out.hd rfl⟩
  have HKD : Calls Tryz.prog 39 #[.pointer (some ⟨b, 0, none⟩), .bool key, .int .i64 ps.kind] wr fun e w' => e = .returned (.int .i64 0) ∧ Moved At wr F st6 w' := by
    have h := rhead_any b H key ps.kind st _ F lim P.out.t.c.c.a S.out.2.1 (by omega)
    rw [hd] at h
    exact h
  refine HKD.mono ?_
  clear HKD
  rintro e w6 ⟨rfl, hm6⟩
  obtain ⟨F6, c6⟩ := CW.of_moved hm6
  obtain ⟨n6, hn6, hok6⟩ := H.okRun (headA key ps.kind) 3 (ctx_head _ _) (most_head _ _) st lim S.out.2.1
  rw [hd] at hok6
  have U := hid (RU.of H P.out c6 hd)
  have OK6 := hid (And.intro hok6 (show n6 ≤ lim + 100 by omega))
  clear c6 hd hok6 hn6 hbk hm6

  go_wp2_with fail
  generalize ((w6.alloc _).alloc _ : World) = wt at *
  generalize w6.heap.size = ob at *
  go_loopg [12] 0 (fun j iv wr => iv = .int .i64 0 ∧ RT At w F ob ps.kind ps.mode [pm0, pm1, pm2, pm3] ps.x ps.y plv [pv0, pv1, pv2, pv3] L [] 0 0 [] 0 0 nilS [] 0 nilS st6 wr F6)
  case atStart => exact ⟨rfl, U.out.t⟩
  case round =>
    obtain ⟨rfl, hT⟩ := hrel
    have T := hid hT
    clear hT
    have oc0 := T.out.out.c0
    obtain ⟨e0, e1⟩ := blk2R T.out.er
    go_wp2_with fail
    refine (err_ok 0 nilS _).mono ?_
    rintro e w9 ⟨rfl, h9⟩
    have T9 := hid (T.out.below H h9)
    clear h9 oc0 e0 e1
    obtain ⟨⟨o0, o1⟩, ⟨o2, o3, o4, o5⟩, ⟨o6, o7, o8⟩, o9, o10, o11, o12⟩ := T9.out.out.all4'
    obtain ⟨⟨⟨⟨r0, r1⟩, ⟨r2, r3, r4, r5⟩, ⟨r6, r7, r8⟩, r9, r10, r11, r12⟩, hfr⟩, ⟨q0, q1⟩, ⟨g0, g1⟩, e0, e1⟩ := T9.out.res13
    have f0 := hfr 0
    have f1 := hfr 1
    have f2 := hfr 2
    have f3 := hfr 3
    have f4 := hfr 4
    have f5 := hfr 5
    have f6 := hfr 6
    have f7 := hfr 7
    have f8 := hfr 8
    have f9 := hfr 9
    have f10 := hfr 10
    have f11 := hfr 11
    have f12 := hfr 12
    obtain ⟨hz1, hz2⟩ := fin_z T9.out.res T9.out.rer (by omega) 0 0 0 0 0 0 0 0 0 nilS nilS nilS nilS nilS nilS
    obtain ⟨⟨z0, z1⟩, ⟨z2, z3, z4, z5⟩, ⟨z6, z7, z8⟩, z9, z10, z11, z12⟩ := hz1.all4
    obtain ⟨z13, z14⟩ := blk2R hz2
    have hne : ¬ (ob = w.heap.size) := by have := T9.out.lo; omega
    have hne2 : ¬ (w.heap.size = ob) := fun e => hne e.symm
    obtain ⟨y0, y1⟩ := blk2R (T9.out.er.keep (only13 w9 (w.heap.size + 1) 0 0 0 0 0 0 0 0 nilS nilS nilS nilS nilS) (by show ¬ ob + 1 = w.heap.size + 1; omega))
    clear hz1 hz2 hfr
    go_wp2_with fail
    go_region
    go_wp2_with fail
    exact bodyPost_ret (v := .tuple #[sqV 0 0 0 0 0 0 0 0 nilS nilS nilS nilS nilS, errA 0]) (by simp [sqV, errA, results, Tryz.results11, go_sem, z0, z1, z2, z3, z4, z5, z6, z7, z8, z9, z10, z11, z12, z13, z14]) rfl (by
      have hR : M.run pr st = ((none, bareS 0), st6) := by rw [U.out.pr]; rfl 
      have hfin0 := T9.out.c.fin H (r := w.heap.size + 1) (q := w.heap.size + 1 + 1) (.inl (.inr (.inl rfl))) (.inl (.inr (.inr rfl))) 0 0 0 0 0 0 0 0 0 nilS nilS nilS nilS nilS nilS
      have hfin := hfin0.below H (Below.refl _ _).drew
      refine ⟨F6, by rw [hR]; exact hfin.c, ?_⟩
      rw [hR]
      exact ⟨_, rfl, 0, 0, 0, 0, nilS, nilS, nilS, nilS, nilS, [], [], [], [], rfl, rfl, rfl, Lst.nil, Lst.nil, Lst.nil, Lst.nil, Lst.nil⟩)
end
end Go.Proofs.YtkkgpdejmcpcpaaGreatDoor

