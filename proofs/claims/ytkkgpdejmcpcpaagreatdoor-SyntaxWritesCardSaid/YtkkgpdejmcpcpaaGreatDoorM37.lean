/- Parts: XSynH, XSynI. -/
import Derived.Test.YtkkgpdejmcpcpaaGreatDoorM28
/- Chapter 20: syntax.Code at a writer: not of a key frame. -/
namespace Go.Proofs.YtkkgpdejmcpcpaaGreatDoor
open Go.RowKit
section
variable {σ : Type} {M : Mach σ} {fB fF : FuncId} {me : Value} {At : World → (Nat → Prop) → σ → Prop} {Ok : σ → Nat → Prop}
set_option maxRecDepth 100000 in
set_option maxHeartbeats 8000000 in
theorem scode_wr_f (b : Nat) (T : TypeId) (H : IsCoder M fB fF (.pointer (some ⟨b, 0, none⟩)) At Ok) (Sp : Speaks T (.pointer (some ⟨b, 0, none⟩)) fB fF) (Sp2 : Speaks2 T (.pointer (some ⟨b, 0, none⟩))) 
    (HR : ∀ W, Calls Tryz.prog 32 #[.iface T (.pointer (some ⟨b, 0, none⟩))] W fun e w' => e = .returned (.bool false) ∧ w' = W)
    (vv : Value) (s eff : SqS) (m0 m1 m2 m3 : Int) (lv v0 v1 v2 v3 : Value) (l0 l1 l2 l3 : List Int) (st : σ) (w : World) (F : Nat → Prop) (lim : Nat)
    (hn : SqArg w vv s m0 m1 m2 m3 lv v0 v1 v2 v3 l0 l1 l2 l3) (hs : At w F st) (ho : Ok st lim) (hl : lim + 100000 ≤ 1000000000)
    (heff : eff = s) (hright : RightS false s) (hecho : Echo M) (h3 : s.kind = 3 → ∀ p ∈ [(v0, l0), (v1, l1), (v2, l2), (v3, l3)], NOff p.1 p.2 w F) (h12 : s.kind = 1 ∨ s.kind = 2 → NOff lv s.large w F) :
    Calls Tryz.prog 10 #[.iface T (.pointer (some ⟨b, 0, none⟩)), .bool false, vv] w (SCodeRes M At w F (codeA false eff) st) := by
  have hvv := hn.num.v
  have hms := hn.num.m
  have hsm := hn.sm
  have HCK := hid (fun W (hb : Below w.heap.size w W) => scheck_any false vv s m0 m1 m2 m3 lv v0 v1 v2 v3 l0 l1 l2 l3 W (hn.below hb))
  subst hvv
  unfold sqV at HCK ⊢
  have hF1 : ¬ F w.heap.size := fun h => by have := H.there _ _ _ _ hs h; omega
  have hF2 : ¬ F (w.heap.size + 1) := fun h => by have := H.there _ _ _ _ hs h; omega
  have S := hid (And.intro hs (And.intro ho (And.intro hF1 hF2)))
  clear hF1 hF2 hs ho
  obtain ⟨pr, hpr⟩ : ∃ q, q = codeA false eff := ⟨_, rfl⟩
  rw [← hpr]
  have PR := hid hpr
  have S2 := hid hpr
  clear hpr
  subst heff
  have hask := hright.ask
  obtain ⟨L, hL1, hL3, hL12⟩ : ∃ L : List (Value × List Int), (∀ p ∈ L, NOff p.1 p.2 w F) ∧ (eff.kind = 3 → ∀ p ∈ [(v0, l0), (v1, l1), (v2, l2), (v3, l3)], p ∈ L) ∧ (eff.kind = 1 ∨ eff.kind = 2 → (lv, eff.large) ∈ L) := by
    by_cases e3 : eff.kind = 3
    · exact ⟨_, h3 e3, fun _ p hp => hp, fun e => by omega⟩
    · by_cases e12 : eff.kind = 1 ∨ eff.kind = 2
      · exact ⟨[(lv, eff.large)], fun p hp => by rw [List.mem_singleton.1 hp]; exact h12 e12, fun e => absurd e e3, fun _ => by simp⟩
      · exact ⟨[], fun p hp => (by cases hp), fun e => absurd e e3, fun e => absurd e e12⟩
  have hts := TQ.start (M := M) (Ok := Ok) (L := L) (k := eff.kind) (mode := eff.mode) (m0 := m0) (m1 := m1) (m2 := m2) (m3 := m3) (x := eff.x) (y := eff.y) (lv := lv) (v0 := v0) (v1 := v1) (v2 := v2) (v3 := v3) H S.out.1 hL1
  have hbt : Below w.heap.size w ((w.alloc (.cells #[.int .i64 eff.kind, .int .i64 eff.mode, .int .i64 m0, .int .i64 m1, .int .i64 m2, .int .i64 m3, .int .i64 eff.x, .int .i64 eff.y, lv, v0, v1, v2, v3] 36)).alloc (.cells #[.int .i64 0, .int .i64 0, .int .i64 0, .int .i64 0, .int .i64 0, .int .i64 0, .int .i64 0, .int .i64 0, nilS, nilS, nilS, nilS, nilS] 36)) := ((Below.refl _ _).alloc (Nat.le_refl _) _).alloc (by simp) _
  have hhead : (M.run (headA false eff.kind) st).1 = eff.kind := by rw [hecho.run, say_head hright.k0 hright.k3 hright.key]
  have TS := hid (And.intro hts (And.intro hbt (And.intro (And.intro hms hsm) (And.intro hhead (And.intro hright (And.intro hL3 hL12))))))
  rw [hask, show codeV 0 = .nilIface from rfl] at HCK
  clear hask hts hbt hms hsm hL1 hL3 hL12 h3 h12 hn hright hhead
  go_enter Tryz.func10, Tryz.ntmps10
  go_wp2_with (go_at_call 32; refine (HR _).mono ?_; rintro e w2 ⟨rfl, rfl⟩)
  generalize ((w.alloc _).alloc _ : World) = wq at *
  refine (HCK.out _ TS.out.2.1).mono ?_
  rintro e wr ⟨rfl, hbr⟩
  obtain ⟨pm0, pm1, pm2, pm3, plv, pv0, pv1, pv2, pv3, pl0, pl1, pl2, pl3, ps, P⟩ : ∃ (m0 m1 m2 m3 : Int) (lv v0 v1 v2 v3 : Value) (l0 l1 l2 l3 : List Int) (s : SqS), Hid (TP M At w F pr false st L s m0 m1 m2 m3 lv v0 v1 v2 v3 l0 l1 l2 l3 wr) := by
    obtain ⟨hts, _, ⟨hms, hsm⟩, hhead, hright, hL3, hL12⟩ := TS.out
    refine ⟨m0, m1, m2, m3, lv, v0, v1, v2, v3, l0, l1, l2, l3, eff, hid ⟨PR.out, hts.below H hbr, hms, hsm, ⟨hright.k0, hright.k3⟩, fun e p hp => ?_, fun e => ?_⟩⟩
    · rw [hhead] at e
      refine ⟨hL3 e p hp, (hright.three e).2 p.2 ?_⟩
      rw [hsm]
      simp only [List.mem_cons, List.not_mem_nil, or_false] at hp ⊢
      rcases hp with rfl | rfl | rfl | rfl <;> simp
    · rw [hhead] at e
      exact ⟨hL12 e, hright.large e⟩
  clear HCK TS hbr PR HR S2 hecho
  have hcut : cut ps.kind 0 3 = ps.kind := cut_eq P.out.k.1 P.out.k.2
  have hal : Below wr.heap.size wr (wr.alloc (.cells #[.int .i64 0, .int .i64 0, .int .i64 0, .int .i64 0, .int .i64 0, .int .i64 0, .int .i64 0, .int .i64 0, nilS, nilS, nilS, nilS, nilS] 36)) := (Below.refl _ _).alloc (Nat.le_refl _) _
  have T5 := hid (P.out.t.below H hal)
  have hbk5 := T5.out.box.c0
  have hbk4 := P.out.t.box.c0
  have hm2 := Sp.flat
  have hcb2 := Sp.callFlat
  have hnl := Sp2.nilFlat
  have hkd := kind_any b T H Sp ps.kind st _ F lim T5.out.c.a S.out.2.1 (by omega)
  rw [hcut] at hkd
  have HKD := hid hkd
  have HFD := hid (H.flatN _ F st (ps.kind == 3) lim T5.out.c.a S.out.2.1 (by omega))
  have hout5 : SqBlk (wr.alloc (.cells #[.int .i64 0, .int .i64 0, .int .i64 0, .int .i64 0, .int .i64 0, .int .i64 0, .int .i64 0, .int .i64 0, nilS, nilS, nilS, nilS, nilS] 36)) wr.heap.size 36 0 0 [] 0 0 nilS [] := SqBlk.new (Blk.new _ _ _) rfl
  have hF5 : ¬ F wr.heap.size := fun e => by have := H.there _ _ _ _ P.out.t.c.a e; omega
  clear hcut hal hkd T5
  go_wp2_with fail
  clear hbk4 hbk5
  refine HKD.out.mono ?_
  rintro e w6 ⟨rfl, hm6⟩
  obtain ⟨F6, c6⟩ := CW.of_moved hm6
  have hd : M.run (headA false ps.kind) st = ((M.kind ps.kind st).1, (M.kind ps.kind st).2) := run_kind M ps.kind st
  clear hm6 HKD HFD hm2 hcb2 hnl
  have U := hid (UQ.of H P.out c6 hd)
  have hoc6 := (hout5.keep c6.o hF5).c0
  have hof6 := (hout5.keep c6.o hF5).frozen 0
  obtain ⟨⟨q0, q1⟩, ⟨q2, q3, q4, q5⟩, ⟨q6, q7, q8⟩, q9, q10, q11, q12⟩ := U.out.t.box.all4
  obtain ⟨n6, hn6, hok6⟩ := H.okRun (headA false ps.kind) 3 (ctx_head _ _) (most_head _ _) st lim S.out.2.1
  rw [hd] at hok6
  have OK6 := hid (And.intro hok6 hn6)
  clear c6 hd hok6 hn6
  go_wp2_with fail
  clear q0 q1 q2 q3 q4 q5 q6 q7 q8 q9 q10 q11 q12 hoc6 hof6
  generalize w6.setCell ⟨wr.heap.size, 0, none⟩ _ = w66 at *
  refine (sparts_any b T H Sp Sp2 _ ps pm0 pm1 pm2 pm3 plv pv0 pv1 pv2 pv3 pl0 pl1 pl2 pl3 (M.kind ps.kind st).1 wr.heap.size (M.kind ps.kind st).2 _ F6 n6 ⟨rfl, U.out.em⟩ U.out.es U.out.k U.out.t.c.a OK6.out.1 (by have := OK6.out.2; omega) U.out.out U.out.nF U.out.e3 U.out.e12).mono ?_
  rintro e w7 ⟨F7, hpw, hc7, hres⟩
  obtain ⟨⟨ro, t⟩, st8, hr⟩ : ∃ (q : R20) (st8 : σ), M.run (restA (M.kind ps.kind st).1 ps) (M.kind ps.kind st).2 = (q, st8) := ⟨_, _, rfl⟩
  rw [hr] at hpw hres
  have hfin : M.run pr st = ((ro, t), st8) := U.out.pr.trans hr
  have hkind : t.kind = (M.kind ps.kind st).1 := by
    have h := rest_kind M (M.kind ps.kind st).1 ps (M.kind ps.kind st).2
    rw [hr] at h
    exact h
  have hfour : ro = none → Four t := fun e => by
    have h := rest_four M (M.kind ps.kind st).1 ps ⟨by rw [U.out.em]; rfl, by rw [U.out.es]; rfl⟩ (M.kind ps.kind st).2
    rw [hr] at h
    exact h e
  obtain ⟨hrF, hrB⟩ := U.out.t.far hpw (by have := U.out.ow; omega)
  have hcw := U.out.t.done hpw (by have := U.out.ow; omega)
  have hrl := U.out.t.res.lt
  obtain ⟨⟨r0, r1⟩, ⟨r2, r3, r4, r5⟩, ⟨r6, r7, r8⟩, r9, r10, r11, r12⟩ := hrB.all4'
  have f0 := hrB.frozen 0
  have f1 := hrB.frozen 1
  have f2 := hrB.frozen 2
  have f3 := hrB.frozen 3
  have f4 := hrB.frozen 4
  have f5 := hrB.frozen 5
  have f6 := hrB.frozen 6
  have f7 := hrB.frozen 7
  have f8 := hrB.frozen 8
  have f9 := hrB.frozen 9
  have f10 := hrB.frozen 10
  have f11 := hrB.frozen 11
  have f12 := hrB.frozen 12
  cases ro with
  | none =>
    dsimp only at hres
    obtain ⟨rfl, lvt, vst, hblk, hlL, hlS⟩ := hres
    have h4 := hfour rfl
    obtain ⟨n0, n1, n2, n3, hmm⟩ : ∃ n0 n1 n2 n3, t.modes = [n0, n1, n2, n3] := ⟨_, _, _, _, getD4 0 h4.1⟩
    rw [hmm] at hblk
    obtain ⟨⟨o0, o1⟩, ⟨o2, o3, o4, o5⟩, ⟨o6, o7, o8⟩, o9, o10, o11, o12⟩ := (hblk.getD4 (ms' := [n0, n1, n2, n3]) (vs' := [vst.getD 0 nilS, vst.getD 1 nilS, vst.getD 2 nilS, vst.getD 3 nilS]) (fun _ _ => rfl) (fun j hj => vs4 vst j hj)).all4
    have hz := hrB.set13 t.kind t.mode n0 n1 n2 n3 t.x t.y lvt (vst.getD 0 nilS) (vst.getD 1 nilS) (vst.getD 2 nilS) (vst.getD 3 nilS)
    obtain ⟨⟨z0, z1⟩, ⟨z2, z3, z4, z5⟩, ⟨z6, z7, z8⟩, z9, z10, z11, z12⟩ := hz.all4
    have V := hid (And.intro hfin (And.intro hrF (And.intro hcw (And.intro hrl (And.intro hlL (And.intro hlS (And.intro hmm h4)))))))
    clear hfin hrF hcw hrl hlL hlS h4 hmm hblk hz hfour hkind hr hrB hpw hc7
    have ofm := o8
    obtain ⟨LA, ln, hlvt⟩ := (lst_form V.out.2.2.2.2.1)
    subst hlvt
    obtain ⟨SA0, sn0, hs0⟩ := (lst_form (V.out.2.2.2.2.2.1 0 (by omega)))
    obtain ⟨SA1, sn1, hs1⟩ := (lst_form (V.out.2.2.2.2.2.1 1 (by omega)))
    obtain ⟨SA2, sn2, hs2⟩ := (lst_form (V.out.2.2.2.2.2.1 2 (by omega)))
    obtain ⟨SA3, sn3, hs3⟩ := (lst_form (V.out.2.2.2.2.2.1 3 (by omega)))
    rw [hs0] at o9 z0 z1 z2 z3 z4 z5 z6 z7 z8 z9 z10 z11 z12
    rw [hs1] at o10 z0 z1 z2 z3 z4 z5 z6 z7 z8 z9 z10 z11 z12
    rw [hs2] at o11 z0 z1 z2 z3 z4 z5 z6 z7 z8 z9 z10 z11 z12
    rw [hs3] at o12 z0 z1 z2 z3 z4 z5 z6 z7 z8 z9 z10 z11 z12
    have HS := hid (And.intro hs0 (And.intro hs1 (And.intro hs2 hs3)))
    clear hs0 hs1 hs2 hs3 ofm
    go_wp2_with fail
    exact bodyPost_ret (v := .tuple #[sqV t.kind t.mode n0 n1 n2 n3 t.x t.y (.slice LA ln ln) (.slice SA0 sn0 sn0) (.slice SA1 sn1 sn1) (.slice SA2 sn2 sn2) (.slice SA3 sn3 sn3), .nilIface]) (by simp [sqV, results, Tryz.results10, go_sem, z0, z1, z2, z3, z4, z5, z6, z7, z8, z9, z10, z11, z12]) rfl (by
      obtain ⟨hfin, hrF, hcw, hrl, hlL, hlS, hmm, h4⟩ := V.out
      obtain ⟨hs0, hs1, hs2, hs3⟩ := HS.out
      have g0 := hlS 0 (by omega)
      have g1 := hlS 1 (by omega)
      have g2 := hlS 2 (by omega)
      have g3 := hlS 3 (by omega)
      rw [hs0] at g0
      rw [hs1] at g1
      rw [hs2] at g2
      rw [hs3] at g3
      refine ⟨F7, by rw [hfin]; exact CW.set13 H hcw hrF (by omega) _ _ _ _ _ _ _ _ _ _ _ _ _, ?_⟩
      rw [hfin]
      have hsz := U.out.t.c.o.size
      exact ⟨_, rfl, _, _, _, _, _, _, _, _, _, _, _, _, _, rfl, hmm, getD4 [] h4.2, (hlL.set13 hrl _ _ _ _ _ _ _ _ _ _ _ _ _).earlier hsz, (g0.set13 hrl _ _ _ _ _ _ _ _ _ _ _ _ _).earlier hsz, (g1.set13 hrl _ _ _ _ _ _ _ _ _ _ _ _ _).earlier hsz, (g2.set13 hrl _ _ _ _ _ _ _ _ _ _ _ _ _).earlier hsz, (g3.set13 hrl _ _ _ _ _ _ _ _ _ _ _ _ _).earlier hsz⟩)
  | some i =>
    dsimp only at hres
    obtain ⟨ev, rfl, hev⟩ := hres
    obtain ⟨tv, xv, hevf⟩ := hev.form
    subst hevf
    have V := hid (And.intro hfin (And.intro hrF (And.intro hcw (And.intro hrl (And.intro hev (And.intro hkind hrB))))))
    clear hfin hrF hcw hrl hev hfour hkind hr hrB hpw r0 r1 r2 r3 r4 r5 r6 r7 r8 r9 r10 r11 r12 f0 f1 f2 f3 f4 f5 f6 f7 f8 f9 f10 f11 f12
    go_wp2_with fail
    refine (in_any _ _ 3 [(⟨#[99, 111, 101, 102]⟩, (i : Int))] _ _ (by exact V.out.2.2.2.2.1)).mono ?_
    rintro e w8 ⟨ev2, rfl, hev2, hb8⟩
    obtain ⟨tv2, xv2, hevf2⟩ := hev2.form
    subst hevf2
    have hrB := V.out.2.2.2.2.2.2.below hb8
    obtain ⟨⟨r0, r1⟩, ⟨r2, r3, r4, r5⟩, ⟨r6, r7, r8⟩, r9, r10, r11, r12⟩ := hrB.all4'
    have f0 := hrB.frozen 0
    have f1 := hrB.frozen 1
    have f2 := hrB.frozen 2
    have f3 := hrB.frozen 3
    have f4 := hrB.frozen 4
    have f5 := hrB.frozen 5
    have f6 := hrB.frozen 6
    have f7 := hrB.frozen 7
    have f8 := hrB.frozen 8
    have f9 := hrB.frozen 9
    have f10 := hrB.frozen 10
    have f11 := hrB.frozen 11
    have f12 := hrB.frozen 12
    have hz := hrB.set13 0 0 0 0 0 0 0 0 nilS nilS nilS nilS nilS
    obtain ⟨⟨z0, z1⟩, ⟨z2, z3, z4, z5⟩, ⟨z6, z7, z8⟩, z9, z10, z11, z12⟩ := hz.all4
    have VV := hid (And.intro hev2 (And.intro hb8 hrB))
    clear hev2 hb8 hrB hz hc7
    go_wp2_with fail
    exact bodyPost_ret (v := .tuple #[zeroV, .iface tv2 xv2]) (by simp [zeroV, sqV, results, Tryz.results10, go_sem, z0, z1, z2, z3, z4, z5, z6, z7, z8, z9, z10, z11, z12]) rfl (by
      obtain ⟨hfin, hrF, hcw, hrl, hev, hkind, _⟩ := V.out
      refine ⟨F7, by rw [hfin]; exact CW.set13 H (hcw.below H VV.out.2.1) hrF (by omega) _ _ _ _ _ _ _ _ _ _ _ _ _, ?_⟩
      rw [hfin]
      refine ⟨_, rfl, ?_⟩
      dsimp only
      rw [hkind]
      exact errv_set13 VV.out.1 VV.out.2.2 (by decide) _ _ _ _ _ _ _ _ _ _ _ _ _)
end
end Go.Proofs.YtkkgpdejmcpcpaaGreatDoor

/- Chapter 20: syntax.Code at a writer: of a key frame. -/
namespace Go.Proofs.YtkkgpdejmcpcpaaGreatDoor
open Go.RowKit
section
variable {σ : Type} {M : Mach σ} {fB fF : FuncId} {me : Value} {At : World → (Nat → Prop) → σ → Prop} {Ok : σ → Nat → Prop}
set_option maxRecDepth 100000 in
set_option maxHeartbeats 8000000 in
theorem scode_wr_t (b : Nat) (T : TypeId) (H : IsCoder M fB fF (.pointer (some ⟨b, 0, none⟩)) At Ok) (Sp : Speaks T (.pointer (some ⟨b, 0, none⟩)) fB fF) (Sp2 : Speaks2 T (.pointer (some ⟨b, 0, none⟩))) 
    (HR : ∀ W, Calls Tryz.prog 32 #[.iface T (.pointer (some ⟨b, 0, none⟩))] W fun e w' => e = .returned (.bool false) ∧ w' = W)
    (vv : Value) (s eff : SqS) (m0 m1 m2 m3 : Int) (lv v0 v1 v2 v3 : Value) (l0 l1 l2 l3 : List Int) (st : σ) (w : World) (F : Nat → Prop) (lim : Nat)
    (hn : SqArg w vv s m0 m1 m2 m3 lv v0 v1 v2 v3 l0 l1 l2 l3) (hs : At w F st) (ho : Ok st lim) (hl : lim + 100000 ≤ 1000000000)
    (heff : eff = s) (hright : RightS true s) (hecho : Echo M) (h3 : s.kind = 3 → ∀ p ∈ [(v0, l0), (v1, l1), (v2, l2), (v3, l3)], NOff p.1 p.2 w F) (h12 : s.kind = 1 ∨ s.kind = 2 → NOff lv s.large w F) :
    Calls Tryz.prog 10 #[.iface T (.pointer (some ⟨b, 0, none⟩)), .bool true, vv] w (SCodeRes M At w F (codeA true eff) st) := by
  have hvv := hn.num.v
  have hms := hn.num.m
  have hsm := hn.sm
  have HCK := hid (fun W (hb : Below w.heap.size w W) => scheck_any true vv s m0 m1 m2 m3 lv v0 v1 v2 v3 l0 l1 l2 l3 W (hn.below hb))
  subst hvv
  unfold sqV at HCK ⊢
  have hF1 : ¬ F w.heap.size := fun h => by have := H.there _ _ _ _ hs h; omega
  have hF2 : ¬ F (w.heap.size + 1) := fun h => by have := H.there _ _ _ _ hs h; omega
  have S := hid (And.intro hs (And.intro ho (And.intro hF1 hF2)))
  clear hF1 hF2 hs ho
  obtain ⟨pr, hpr⟩ : ∃ q, q = codeA true eff := ⟨_, rfl⟩
  rw [← hpr]
  have PR := hid hpr
  have S2 := hid hpr
  clear hpr
  subst heff
  have hask := hright.ask
  obtain ⟨L, hL1, hL3, hL12⟩ : ∃ L : List (Value × List Int), (∀ p ∈ L, NOff p.1 p.2 w F) ∧ (eff.kind = 3 → ∀ p ∈ [(v0, l0), (v1, l1), (v2, l2), (v3, l3)], p ∈ L) ∧ (eff.kind = 1 ∨ eff.kind = 2 → (lv, eff.large) ∈ L) := by
    by_cases e3 : eff.kind = 3
    · exact ⟨_, h3 e3, fun _ p hp => hp, fun e => by omega⟩
    · by_cases e12 : eff.kind = 1 ∨ eff.kind = 2
      · exact ⟨[(lv, eff.large)], fun p hp => by rw [List.mem_singleton.1 hp]; exact h12 e12, fun e => absurd e e3, fun _ => by simp⟩
      · exact ⟨[], fun p hp => (by cases hp), fun e => absurd e e3, fun e => absurd e e12⟩
  have hts := TQ.start (M := M) (Ok := Ok) (L := L) (k := eff.kind) (mode := eff.mode) (m0 := m0) (m1 := m1) (m2 := m2) (m3 := m3) (x := eff.x) (y := eff.y) (lv := lv) (v0 := v0) (v1 := v1) (v2 := v2) (v3 := v3) H S.out.1 hL1
  have hbt : Below w.heap.size w ((w.alloc (.cells #[.int .i64 eff.kind, .int .i64 eff.mode, .int .i64 m0, .int .i64 m1, .int .i64 m2, .int .i64 m3, .int .i64 eff.x, .int .i64 eff.y, lv, v0, v1, v2, v3] 36)).alloc (.cells #[.int .i64 0, .int .i64 0, .int .i64 0, .int .i64 0, .int .i64 0, .int .i64 0, .int .i64 0, .int .i64 0, nilS, nilS, nilS, nilS, nilS] 36)) := ((Below.refl _ _).alloc (Nat.le_refl _) _).alloc (by simp) _
  have hhead : (M.run (headA true eff.kind) st).1 = eff.kind := by rw [hecho.run, say_head hright.k0 hright.k3 hright.key]
  have TS := hid (And.intro hts (And.intro hbt (And.intro (And.intro hms hsm) (And.intro hhead (And.intro hright (And.intro hL3 hL12))))))
  rw [hask, show codeV 0 = .nilIface from rfl] at HCK
  clear hask hts hbt hms hsm hL1 hL3 hL12 h3 h12 hn hright hhead
  go_enter Tryz.func10, Tryz.ntmps10
  go_wp2_with (go_at_call 32; refine (HR _).mono ?_; rintro e w2 ⟨rfl, rfl⟩)
  generalize ((w.alloc _).alloc _ : World) = wq at *
  refine (HCK.out _ TS.out.2.1).mono ?_
  rintro e wr ⟨rfl, hbr⟩
  obtain ⟨pm0, pm1, pm2, pm3, plv, pv0, pv1, pv2, pv3, pl0, pl1, pl2, pl3, ps, P⟩ : ∃ (m0 m1 m2 m3 : Int) (lv v0 v1 v2 v3 : Value) (l0 l1 l2 l3 : List Int) (s : SqS), Hid (TP M At w F pr true st L s m0 m1 m2 m3 lv v0 v1 v2 v3 l0 l1 l2 l3 wr) := by
    obtain ⟨hts, _, ⟨hms, hsm⟩, hhead, hright, hL3, hL12⟩ := TS.out
    refine ⟨m0, m1, m2, m3, lv, v0, v1, v2, v3, l0, l1, l2, l3, eff, hid ⟨PR.out, hts.below H hbr, hms, hsm, ⟨hright.k0, hright.k3⟩, fun e p hp => ?_, fun e => ?_⟩⟩
    · rw [hhead] at e
      refine ⟨hL3 e p hp, (hright.three e).2 p.2 ?_⟩
      rw [hsm]
      simp only [List.mem_cons, List.not_mem_nil, or_false] at hp ⊢
      rcases hp with rfl | rfl | rfl | rfl <;> simp
    · rw [hhead] at e
      exact ⟨hL12 e, hright.large e⟩
  clear HCK TS hbr PR HR S2 hecho
  have hcut : cut ps.kind 0 3 = ps.kind := cut_eq P.out.k.1 P.out.k.2
  have hal : Below wr.heap.size wr (wr.alloc (.cells #[.int .i64 0, .int .i64 0, .int .i64 0, .int .i64 0, .int .i64 0, .int .i64 0, .int .i64 0, .int .i64 0, nilS, nilS, nilS, nilS, nilS] 36)) := (Below.refl _ _).alloc (Nat.le_refl _) _
  have T5 := hid (P.out.t.below H hal)
  have hbk5 := T5.out.box.c0
  have hbk4 := P.out.t.box.c0
  have hm2 := Sp.flat
  have hcb2 := Sp.callFlat
  have hnl := Sp2.nilFlat
  have hkd := kind_any b T H Sp ps.kind st _ F lim T5.out.c.a S.out.2.1 (by omega)
  rw [hcut] at hkd
  have HKD := hid hkd
  have HFD := hid (H.flatN _ F st (ps.kind == 3) lim T5.out.c.a S.out.2.1 (by omega))
  have hout5 : SqBlk (wr.alloc (.cells #[.int .i64 0, .int .i64 0, .int .i64 0, .int .i64 0, .int .i64 0, .int .i64 0, .int .i64 0, .int .i64 0, nilS, nilS, nilS, nilS, nilS] 36)) wr.heap.size 36 0 0 [] 0 0 nilS [] := SqBlk.new (Blk.new _ _ _) rfl
  have hF5 : ¬ F wr.heap.size := fun e => by have := H.there _ _ _ _ P.out.t.c.a e; omega
  clear hcut hal hkd T5
  go_wp2_with fail
  clear hbk4 hbk5
  refine HFD.out.mono ?_
  rintro e w6 ⟨rfl, hm6, _⟩
  obtain ⟨F6, c6⟩ := CW.of_moved hm6
  clear hm6 HKD HFD
  cases hq : (M.flat st (ps.kind == 3)).1 with
  | true =>
    have hd : M.run (headA true ps.kind) st = (3, (M.flat st (ps.kind == 3)).2) := by
      show ((if (M.flat st (ps.kind == 3)).1 = true then (3 : Int) else 2), (M.flat st (ps.kind == 3)).2) = _
      rw [hq]
      rfl
    clear hq
    have U := hid (UQ.of H P.out c6 hd)
    have hoc6 := (hout5.keep c6.o hF5).c0
    have hof6 := (hout5.keep c6.o hF5).frozen 0
    obtain ⟨⟨q0, q1⟩, ⟨q2, q3, q4, q5⟩, ⟨q6, q7, q8⟩, q9, q10, q11, q12⟩ := U.out.t.box.all4
    obtain ⟨n6, hn6, hok6⟩ := H.okRun (headA true ps.kind) 3 (ctx_head _ _) (most_head _ _) st lim S.out.2.1
    rw [hd] at hok6
    have OK6 := hid (And.intro hok6 hn6)
    clear c6 hd hok6 hn6
    go_wp2_with fail
    clear q0 q1 q2 q3 q4 q5 q6 q7 q8 q9 q10 q11 q12 hoc6 hof6
    generalize w6.setCell ⟨wr.heap.size, 0, none⟩ _ = w66 at *
    refine (sparts_any b T H Sp Sp2 _ ps pm0 pm1 pm2 pm3 plv pv0 pv1 pv2 pv3 pl0 pl1 pl2 pl3 3 wr.heap.size (M.flat st (ps.kind == 3)).2 _ F6 n6 ⟨rfl, U.out.em⟩ U.out.es U.out.k U.out.t.c.a OK6.out.1 (by have := OK6.out.2; omega) U.out.out U.out.nF U.out.e3 U.out.e12).mono ?_
    rintro e w7 ⟨F7, hpw, hc7, hres⟩
    obtain ⟨⟨ro, t⟩, st8, hr⟩ : ∃ (q : R20) (st8 : σ), M.run (restA 3 ps) (M.flat st (ps.kind == 3)).2 = (q, st8) := ⟨_, _, rfl⟩
    rw [hr] at hpw hres
    have hfin : M.run pr st = ((ro, t), st8) := U.out.pr.trans hr
    have hkind : t.kind = 3 := by
      have h := rest_kind M 3 ps (M.flat st (ps.kind == 3)).2
      rw [hr] at h
      exact h
    have hfour : ro = none → Four t := fun e => by
      have h := rest_four M 3 ps ⟨by rw [U.out.em]; rfl, by rw [U.out.es]; rfl⟩ (M.flat st (ps.kind == 3)).2
      rw [hr] at h
      exact h e
    obtain ⟨hrF, hrB⟩ := U.out.t.far hpw (by have := U.out.ow; omega)
    have hcw := U.out.t.done hpw (by have := U.out.ow; omega)
    have hrl := U.out.t.res.lt
    obtain ⟨⟨r0, r1⟩, ⟨r2, r3, r4, r5⟩, ⟨r6, r7, r8⟩, r9, r10, r11, r12⟩ := hrB.all4'
    have f0 := hrB.frozen 0
    have f1 := hrB.frozen 1
    have f2 := hrB.frozen 2
    have f3 := hrB.frozen 3
    have f4 := hrB.frozen 4
    have f5 := hrB.frozen 5
    have f6 := hrB.frozen 6
    have f7 := hrB.frozen 7
    have f8 := hrB.frozen 8
    have f9 := hrB.frozen 9
    have f10 := hrB.frozen 10
    have f11 := hrB.frozen 11
    have f12 := hrB.frozen 12
    cases ro with
    | none =>
      dsimp only at hres
      obtain ⟨rfl, lvt, vst, hblk, hlL, hlS⟩ := hres
      have h4 := hfour rfl
      obtain ⟨n0, n1, n2, n3, hmm⟩ : ∃ n0 n1 n2 n3, t.modes = [n0, n1, n2, n3] := ⟨_, _, _, _, getD4 0 h4.1⟩
      rw [hmm] at hblk
      obtain ⟨⟨o0, o1⟩, ⟨o2, o3, o4, o5⟩, ⟨o6, o7, o8⟩, o9, o10, o11, o12⟩ := (hblk.getD4 (ms' := [n0, n1, n2, n3]) (vs' := [vst.getD 0 nilS, vst.getD 1 nilS, vst.getD 2 nilS, vst.getD 3 nilS]) (fun _ _ => rfl) (fun j hj => vs4 vst j hj)).all4
      have hz := hrB.set13 t.kind t.mode n0 n1 n2 n3 t.x t.y lvt (vst.getD 0 nilS) (vst.getD 1 nilS) (vst.getD 2 nilS) (vst.getD 3 nilS)
      obtain ⟨⟨z0, z1⟩, ⟨z2, z3, z4, z5⟩, ⟨z6, z7, z8⟩, z9, z10, z11, z12⟩ := hz.all4
      have V := hid (And.intro hfin (And.intro hrF (And.intro hcw (And.intro hrl (And.intro hlL (And.intro hlS (And.intro hmm h4)))))))
      clear hfin hrF hcw hrl hlL hlS h4 hmm hblk hz hfour hkind hr hrB hpw hc7
      have ofm := o8
      obtain ⟨LA, ln, hlvt⟩ := (lst_form V.out.2.2.2.2.1)
      subst hlvt
      obtain ⟨SA0, sn0, hs0⟩ := (lst_form (V.out.2.2.2.2.2.1 0 (by omega)))
      obtain ⟨SA1, sn1, hs1⟩ := (lst_form (V.out.2.2.2.2.2.1 1 (by omega)))
      obtain ⟨SA2, sn2, hs2⟩ := (lst_form (V.out.2.2.2.2.2.1 2 (by omega)))
      obtain ⟨SA3, sn3, hs3⟩ := (lst_form (V.out.2.2.2.2.2.1 3 (by omega)))
      rw [hs0] at o9 z0 z1 z2 z3 z4 z5 z6 z7 z8 z9 z10 z11 z12
      rw [hs1] at o10 z0 z1 z2 z3 z4 z5 z6 z7 z8 z9 z10 z11 z12
      rw [hs2] at o11 z0 z1 z2 z3 z4 z5 z6 z7 z8 z9 z10 z11 z12
      rw [hs3] at o12 z0 z1 z2 z3 z4 z5 z6 z7 z8 z9 z10 z11 z12
      have HS := hid (And.intro hs0 (And.intro hs1 (And.intro hs2 hs3)))
      clear hs0 hs1 hs2 hs3 ofm
      go_wp2_with fail
      exact bodyPost_ret (v := .tuple #[sqV t.kind t.mode n0 n1 n2 n3 t.x t.y (.slice LA ln ln) (.slice SA0 sn0 sn0) (.slice SA1 sn1 sn1) (.slice SA2 sn2 sn2) (.slice SA3 sn3 sn3), .nilIface]) (by simp [sqV, results, Tryz.results10, go_sem, z0, z1, z2, z3, z4, z5, z6, z7, z8, z9, z10, z11, z12]) rfl (by
        obtain ⟨hfin, hrF, hcw, hrl, hlL, hlS, hmm, h4⟩ := V.out
        obtain ⟨hs0, hs1, hs2, hs3⟩ := HS.out
        have g0 := hlS 0 (by omega)
        have g1 := hlS 1 (by omega)
        have g2 := hlS 2 (by omega)
        have g3 := hlS 3 (by omega)
        rw [hs0] at g0
        rw [hs1] at g1
        rw [hs2] at g2
        rw [hs3] at g3
        refine ⟨F7, by rw [hfin]; exact CW.set13 H hcw hrF (by omega) _ _ _ _ _ _ _ _ _ _ _ _ _, ?_⟩
        rw [hfin]
        have hsz := U.out.t.c.o.size
        exact ⟨_, rfl, _, _, _, _, _, _, _, _, _, _, _, _, _, rfl, hmm, getD4 [] h4.2, (hlL.set13 hrl _ _ _ _ _ _ _ _ _ _ _ _ _).earlier hsz, (g0.set13 hrl _ _ _ _ _ _ _ _ _ _ _ _ _).earlier hsz, (g1.set13 hrl _ _ _ _ _ _ _ _ _ _ _ _ _).earlier hsz, (g2.set13 hrl _ _ _ _ _ _ _ _ _ _ _ _ _).earlier hsz, (g3.set13 hrl _ _ _ _ _ _ _ _ _ _ _ _ _).earlier hsz⟩)
    | some i =>
      dsimp only at hres
      obtain ⟨ev, rfl, hev⟩ := hres
      obtain ⟨tv, xv, hevf⟩ := hev.form
      subst hevf
      have V := hid (And.intro hfin (And.intro hrF (And.intro hcw (And.intro hrl (And.intro hev (And.intro hkind hrB))))))
      clear hfin hrF hcw hrl hev hfour hkind hr hrB hpw r0 r1 r2 r3 r4 r5 r6 r7 r8 r9 r10 r11 r12 f0 f1 f2 f3 f4 f5 f6 f7 f8 f9 f10 f11 f12
      go_wp2_with fail
      refine (in_any _ _ 3 [(⟨#[99, 111, 101, 102]⟩, (i : Int))] _ _ (by exact V.out.2.2.2.2.1)).mono ?_
      rintro e w8 ⟨ev2, rfl, hev2, hb8⟩
      obtain ⟨tv2, xv2, hevf2⟩ := hev2.form
      subst hevf2
      have hrB := V.out.2.2.2.2.2.2.below hb8
      obtain ⟨⟨r0, r1⟩, ⟨r2, r3, r4, r5⟩, ⟨r6, r7, r8⟩, r9, r10, r11, r12⟩ := hrB.all4'
      have f0 := hrB.frozen 0
      have f1 := hrB.frozen 1
      have f2 := hrB.frozen 2
      have f3 := hrB.frozen 3
      have f4 := hrB.frozen 4
      have f5 := hrB.frozen 5
      have f6 := hrB.frozen 6
      have f7 := hrB.frozen 7
      have f8 := hrB.frozen 8
      have f9 := hrB.frozen 9
      have f10 := hrB.frozen 10
      have f11 := hrB.frozen 11
      have f12 := hrB.frozen 12
      have hz := hrB.set13 0 0 0 0 0 0 0 0 nilS nilS nilS nilS nilS
      obtain ⟨⟨z0, z1⟩, ⟨z2, z3, z4, z5⟩, ⟨z6, z7, z8⟩, z9, z10, z11, z12⟩ := hz.all4
      have VV := hid (And.intro hev2 (And.intro hb8 hrB))
      clear hev2 hb8 hrB hz hc7
      go_wp2_with fail
      exact bodyPost_ret (v := .tuple #[zeroV, .iface tv2 xv2]) (by simp [zeroV, sqV, results, Tryz.results10, go_sem, z0, z1, z2, z3, z4, z5, z6, z7, z8, z9, z10, z11, z12]) rfl (by
        obtain ⟨hfin, hrF, hcw, hrl, hev, hkind, _⟩ := V.out
        refine ⟨F7, by rw [hfin]; exact CW.set13 H (hcw.below H VV.out.2.1) hrF (by omega) _ _ _ _ _ _ _ _ _ _ _ _ _, ?_⟩
        rw [hfin]
        refine ⟨_, rfl, ?_⟩
        dsimp only
        rw [hkind]
        exact errv_set13 VV.out.1 VV.out.2.2 (by decide) _ _ _ _ _ _ _ _ _ _ _ _ _)
  | false =>
    have hd : M.run (headA true ps.kind) st = (2, (M.flat st (ps.kind == 3)).2) := by
      show ((if (M.flat st (ps.kind == 3)).1 = true then (3 : Int) else 2), (M.flat st (ps.kind == 3)).2) = _
      rw [hq]
      rfl
    clear hq
    have U := hid (UQ.of H P.out c6 hd)
    have hoc6 := (hout5.keep c6.o hF5).c0
    have hof6 := (hout5.keep c6.o hF5).frozen 0
    obtain ⟨⟨q0, q1⟩, ⟨q2, q3, q4, q5⟩, ⟨q6, q7, q8⟩, q9, q10, q11, q12⟩ := U.out.t.box.all4
    obtain ⟨n6, hn6, hok6⟩ := H.okRun (headA true ps.kind) 3 (ctx_head _ _) (most_head _ _) st lim S.out.2.1
    rw [hd] at hok6
    have OK6 := hid (And.intro hok6 hn6)
    clear c6 hd hok6 hn6
    go_wp2_with fail
    clear q0 q1 q2 q3 q4 q5 q6 q7 q8 q9 q10 q11 q12 hoc6 hof6
    generalize w6.setCell ⟨wr.heap.size, 0, none⟩ _ = w66 at *
    refine (sparts_any b T H Sp Sp2 _ ps pm0 pm1 pm2 pm3 plv pv0 pv1 pv2 pv3 pl0 pl1 pl2 pl3 2 wr.heap.size (M.flat st (ps.kind == 3)).2 _ F6 n6 ⟨rfl, U.out.em⟩ U.out.es U.out.k U.out.t.c.a OK6.out.1 (by have := OK6.out.2; omega) U.out.out U.out.nF U.out.e3 U.out.e12).mono ?_
    rintro e w7 ⟨F7, hpw, hc7, hres⟩
    obtain ⟨⟨ro, t⟩, st8, hr⟩ : ∃ (q : R20) (st8 : σ), M.run (restA 2 ps) (M.flat st (ps.kind == 3)).2 = (q, st8) := ⟨_, _, rfl⟩
    rw [hr] at hpw hres
    have hfin : M.run pr st = ((ro, t), st8) := U.out.pr.trans hr
    have hkind : t.kind = 2 := by
      have h := rest_kind M 2 ps (M.flat st (ps.kind == 3)).2
      rw [hr] at h
      exact h
    have hfour : ro = none → Four t := fun e => by
      have h := rest_four M 2 ps ⟨by rw [U.out.em]; rfl, by rw [U.out.es]; rfl⟩ (M.flat st (ps.kind == 3)).2
      rw [hr] at h
      exact h e
    obtain ⟨hrF, hrB⟩ := U.out.t.far hpw (by have := U.out.ow; omega)
    have hcw := U.out.t.done hpw (by have := U.out.ow; omega)
    have hrl := U.out.t.res.lt
    obtain ⟨⟨r0, r1⟩, ⟨r2, r3, r4, r5⟩, ⟨r6, r7, r8⟩, r9, r10, r11, r12⟩ := hrB.all4'
    have f0 := hrB.frozen 0
    have f1 := hrB.frozen 1
    have f2 := hrB.frozen 2
    have f3 := hrB.frozen 3
    have f4 := hrB.frozen 4
    have f5 := hrB.frozen 5
    have f6 := hrB.frozen 6
    have f7 := hrB.frozen 7
    have f8 := hrB.frozen 8
    have f9 := hrB.frozen 9
    have f10 := hrB.frozen 10
    have f11 := hrB.frozen 11
    have f12 := hrB.frozen 12
    cases ro with
    | none =>
      dsimp only at hres
      obtain ⟨rfl, lvt, vst, hblk, hlL, hlS⟩ := hres
      have h4 := hfour rfl
      obtain ⟨n0, n1, n2, n3, hmm⟩ : ∃ n0 n1 n2 n3, t.modes = [n0, n1, n2, n3] := ⟨_, _, _, _, getD4 0 h4.1⟩
      rw [hmm] at hblk
      obtain ⟨⟨o0, o1⟩, ⟨o2, o3, o4, o5⟩, ⟨o6, o7, o8⟩, o9, o10, o11, o12⟩ := (hblk.getD4 (ms' := [n0, n1, n2, n3]) (vs' := [vst.getD 0 nilS, vst.getD 1 nilS, vst.getD 2 nilS, vst.getD 3 nilS]) (fun _ _ => rfl) (fun j hj => vs4 vst j hj)).all4
      have hz := hrB.set13 t.kind t.mode n0 n1 n2 n3 t.x t.y lvt (vst.getD 0 nilS) (vst.getD 1 nilS) (vst.getD 2 nilS) (vst.getD 3 nilS)
      obtain ⟨⟨z0, z1⟩, ⟨z2, z3, z4, z5⟩, ⟨z6, z7, z8⟩, z9, z10, z11, z12⟩ := hz.all4
      have V := hid (And.intro hfin (And.intro hrF (And.intro hcw (And.intro hrl (And.intro hlL (And.intro hlS (And.intro hmm h4)))))))
      clear hfin hrF hcw hrl hlL hlS h4 hmm hblk hz hfour hkind hr hrB hpw hc7
      have ofm := o8
      obtain ⟨LA, ln, hlvt⟩ := (lst_form V.out.2.2.2.2.1)
      subst hlvt
      obtain ⟨SA0, sn0, hs0⟩ := (lst_form (V.out.2.2.2.2.2.1 0 (by omega)))
      obtain ⟨SA1, sn1, hs1⟩ := (lst_form (V.out.2.2.2.2.2.1 1 (by omega)))
      obtain ⟨SA2, sn2, hs2⟩ := (lst_form (V.out.2.2.2.2.2.1 2 (by omega)))
      obtain ⟨SA3, sn3, hs3⟩ := (lst_form (V.out.2.2.2.2.2.1 3 (by omega)))
      rw [hs0] at o9 z0 z1 z2 z3 z4 z5 z6 z7 z8 z9 z10 z11 z12
      rw [hs1] at o10 z0 z1 z2 z3 z4 z5 z6 z7 z8 z9 z10 z11 z12
      rw [hs2] at o11 z0 z1 z2 z3 z4 z5 z6 z7 z8 z9 z10 z11 z12
      rw [hs3] at o12 z0 z1 z2 z3 z4 z5 z6 z7 z8 z9 z10 z11 z12
      have HS := hid (And.intro hs0 (And.intro hs1 (And.intro hs2 hs3)))
      clear hs0 hs1 hs2 hs3 ofm
      go_wp2_with fail
      exact bodyPost_ret (v := .tuple #[sqV t.kind t.mode n0 n1 n2 n3 t.x t.y (.slice LA ln ln) (.slice SA0 sn0 sn0) (.slice SA1 sn1 sn1) (.slice SA2 sn2 sn2) (.slice SA3 sn3 sn3), .nilIface]) (by simp [sqV, results, Tryz.results10, go_sem, z0, z1, z2, z3, z4, z5, z6, z7, z8, z9, z10, z11, z12]) rfl (by
        obtain ⟨hfin, hrF, hcw, hrl, hlL, hlS, hmm, h4⟩ := V.out
        obtain ⟨hs0, hs1, hs2, hs3⟩ := HS.out
        have g0 := hlS 0 (by omega)
        have g1 := hlS 1 (by omega)
        have g2 := hlS 2 (by omega)
        have g3 := hlS 3 (by omega)
        rw [hs0] at g0
        rw [hs1] at g1
        rw [hs2] at g2
        rw [hs3] at g3
        refine ⟨F7, by rw [hfin]; exact CW.set13 H hcw hrF (by omega) _ _ _ _ _ _ _ _ _ _ _ _ _, ?_⟩
        rw [hfin]
        have hsz := U.out.t.c.o.size
        exact ⟨_, rfl, _, _, _, _, _, _, _, _, _, _, _, _, _, rfl, hmm, getD4 [] h4.2, (hlL.set13 hrl _ _ _ _ _ _ _ _ _ _ _ _ _).earlier hsz, (g0.set13 hrl _ _ _ _ _ _ _ _ _ _ _ _ _).earlier hsz, (g1.set13 hrl _ _ _ _ _ _ _ _ _ _ _ _ _).earlier hsz, (g2.set13 hrl _ _ _ _ _ _ _ _ _ _ _ _ _).earlier hsz, (g3.set13 hrl _ _ _ _ _ _ _ _ _ _ _ _ _).earlier hsz⟩)
    | some i =>
      dsimp only at hres
      obtain ⟨ev, rfl, hev⟩ := hres
      obtain ⟨tv, xv, hevf⟩ := hev.form
      subst hevf
      have V := hid (And.intro hfin (And.intro hrF (And.intro hcw (And.intro hrl (And.intro hev (And.intro hkind hrB))))))
      clear hfin hrF hcw hrl hev hfour hkind hr hrB hpw r0 r1 r2 r3 r4 r5 r6 r7 r8 r9 r10 r11 r12 f0 f1 f2 f3 f4 f5 f6 f7 f8 f9 f10 f11 f12
      go_wp2_with fail
      refine (in_any _ _ 3 [(⟨#[99, 111, 101, 102]⟩, (i : Int))] _ _ (by exact V.out.2.2.2.2.1)).mono ?_
      rintro e w8 ⟨ev2, rfl, hev2, hb8⟩
      obtain ⟨tv2, xv2, hevf2⟩ := hev2.form
      subst hevf2
      have hrB := V.out.2.2.2.2.2.2.below hb8
      obtain ⟨⟨r0, r1⟩, ⟨r2, r3, r4, r5⟩, ⟨r6, r7, r8⟩, r9, r10, r11, r12⟩ := hrB.all4'
      have f0 := hrB.frozen 0
      have f1 := hrB.frozen 1
      have f2 := hrB.frozen 2
      have f3 := hrB.frozen 3
      have f4 := hrB.frozen 4
      have f5 := hrB.frozen 5
      have f6 := hrB.frozen 6
      have f7 := hrB.frozen 7
      have f8 := hrB.frozen 8
      have f9 := hrB.frozen 9
      have f10 := hrB.frozen 10
      have f11 := hrB.frozen 11
      have f12 := hrB.frozen 12
      have hz := hrB.set13 0 0 0 0 0 0 0 0 nilS nilS nilS nilS nilS
      obtain ⟨⟨z0, z1⟩, ⟨z2, z3, z4, z5⟩, ⟨z6, z7, z8⟩, z9, z10, z11, z12⟩ := hz.all4
      have VV := hid (And.intro hev2 (And.intro hb8 hrB))
      clear hev2 hb8 hrB hz hc7
      go_wp2_with fail
      exact bodyPost_ret (v := .tuple #[zeroV, .iface tv2 xv2]) (by simp [zeroV, sqV, results, Tryz.results10, go_sem, z0, z1, z2, z3, z4, z5, z6, z7, z8, z9, z10, z11, z12]) rfl (by
        obtain ⟨hfin, hrF, hcw, hrl, hev, hkind, _⟩ := V.out
        refine ⟨F7, by rw [hfin]; exact CW.set13 H (hcw.below H VV.out.2.1) hrF (by omega) _ _ _ _ _ _ _ _ _ _ _ _ _, ?_⟩
        rw [hfin]
        refine ⟨_, rfl, ?_⟩
        dsimp only
        rw [hkind]
        exact errv_set13 VV.out.1 VV.out.2.2 (by decide) _ _ _ _ _ _ _ _ _ _ _ _ _)
end
end Go.Proofs.YtkkgpdejmcpcpaaGreatDoor

