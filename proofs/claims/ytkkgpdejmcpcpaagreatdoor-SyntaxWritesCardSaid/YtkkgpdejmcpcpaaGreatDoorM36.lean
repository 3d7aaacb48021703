/- Parts: XSynG. -/
import Derived.Test.YtkkgpdejmcpcpaaGreatDoorM28
/- Chapter 20: syntax.Code at a reader: of a key frame. -/
namespace Go.Proofs.YtkkgpdejmcpcpaaGreatDoor
open Go.RowKit
section
variable {σ : Type} {M : Mach σ} {fB fF : FuncId} {me : Value} {At : World → (Nat → Prop) → σ → Prop} {Ok : σ → Nat → Prop}
set_option maxRecDepth 100000 in
set_option maxHeartbeats 8000000 in
theorem scode_rd_t (b : Nat) (T : TypeId) (H : IsCoder M fB fF (.pointer (some ⟨b, 0, none⟩)) At Ok) (Sp : Speaks T (.pointer (some ⟨b, 0, none⟩)) fB fF) (Sp2 : Speaks2 T (.pointer (some ⟨b, 0, none⟩))) 
    (HR : ∀ W, Calls Tryz.prog 32 #[.iface T (.pointer (some ⟨b, 0, none⟩))] W fun e w' => e = .returned (.bool true) ∧ w' = W)
    (vv : Value) (s eff : SqS) (m0 m1 m2 m3 : Int) (lv v0 v1 v2 v3 : Value) (l0 l1 l2 l3 : List Int) (st : σ) (w : World) (F : Nat → Prop) (lim : Nat)
    (hn : SqArg w vv s m0 m1 m2 m3 lv v0 v1 v2 v3 l0 l1 l2 l3) (hs : At w F st) (ho : Ok st lim) (hl : lim + 100000 ≤ 1000000000)
    (heff : eff = zeroS) :
    Calls Tryz.prog 10 #[.iface T (.pointer (some ⟨b, 0, none⟩)), .bool true, vv] w (SCodeRes M At w F (codeA true eff) st) := by
  have hvv := hn.num.v
  have hms := hn.num.m
  have hsm := hn.sm
  have HCK := hid (fun W (hb : Below w.heap.size w W) => scheck_any true vv s m0 m1 m2 m3 lv v0 v1 v2 v3 l0 l1 l2 l3 W (hn.below hb))
  subst hvv
  unfold sqV at HCK ⊢
  have hF1 : ¬ F w.heap.size := fun h => by have := H.there _ _ _ _ hs h; omega
  have hF2 : ¬ F (w.heap.size + 1) := fun h => by have := H.there _ _ _ _ hs h; omega
  have S := hid (And.intro hs (And.intro ho (And.intro hF1 hF2)))
  clear hF1 hF2 hs ho
  obtain ⟨pr, hpr⟩ : ∃ q, q = codeA true eff := ⟨_, rfl⟩
  rw [← hpr]
  have PR := hid hpr
  have S2 := hid hpr
  clear hpr
  subst heff
  have hmk64 := run_make_int 64 (by omega)
  rw [show ((64 : Nat) : Int) = 64 from rfl] at hmk64
  have hmk16 := run_make_int 16 (by omega)
  rw [show ((16 : Nat) : Int) = 16 from rfl] at hmk16
  have hts := TQ.start (M := M) (Ok := Ok) (L := []) (k := 0) (mode := 0) (m0 := 0) (m1 := 0) (m2 := 0) (m3 := 0) (x := 0) (y := 0) (lv := .slice (some ⟨w.heap.size + 1 + 1, 0, none⟩) 64 64) (v0 := nilS) (v1 := nilS) (v2 := nilS) (v3 := nilS) H S.out.1 (fun p hp => by cases hp)
  have TS0 := hid ((hts.below H ((Below.refl _ _).alloc (Nat.le_refl _) (.cells ((zerosL 64).map intV).toArray 3))).box4 (ms := [0, 0, 0, 0]) (vs := []) (fun j _ => rfl) (fun j _ => (getD_zero4 nilS j).symm))
  have TS := hid (TS0.out.addL (v := .slice (some ⟨w.heap.size + 1 + 1, 0, none⟩) 64 64) (l := zerosL 64) (noff_new (n := 64) (Blk.newAt' _ _ _ (by simp)) rfl (by decide +kernel) (fun e => by have := H.there _ _ _ _ S.out.1 e; omega)) (fun k hk => by
    have e : w.heap.size + 1 + 1 = k := by simpa [Value.ownBlock] using hk
    omega))
  clear hn HCK hts TS0 hms hsm
  go_enter Tryz.func10, Tryz.ntmps10
  go_wp2_with (go_at_call 32; refine (HR _).mono ?_; rintro e w2 ⟨rfl, rfl⟩)
  generalize (((w.alloc _).alloc _).alloc _ : World) = wq at *
  go_loopg [16] 4 (fun j iv wr => ∃ (i : Nat) (vs : List Value) (L : List (Value × List Int)), i + j = 4 ∧ iv = .int .i64 i ∧ vs.length = i ∧ (∀ j, j < i → (vs.getD j nilS, zerosL 16) ∈ L) ∧ (.slice (some ⟨w.heap.size + 1 + 1, 0, none⟩) 64 64, zerosL 64) ∈ L ∧
    TQ At w F w.heap.size (w.heap.size + 1) 0 0 [0, 0, 0, 0] 0 0 (.slice (some ⟨w.heap.size + 1 + 1, 0, none⟩) 64 64) vs L st wr F)
  case atStart => exact ⟨0, [], _, by omega, rfl, rfl, fun j hj => by omega, List.mem_cons_self, TS.out⟩
  case' round =>
    obtain ⟨i, vs, L, hij, rfl, hvs, hvl, hLl, htq⟩ := hrel
    have X := hid (And.intro hvs (And.intro hvl (And.intro hLl htq)))
    have IJ := hid hij
    rcases (show i < 4 ∨ i = 4 by omega) with hi | rfl
    · have hk0 : (0 : Int) ≤ (i : Int) := by omega
      have hk4 : (i : Int) < 4 := by omega
      have hd4 : decide ((i : Int) < 4) = true := by simp; omega
      have hcc := htq.box.cs i hi
      have hcf := htq.box.frozen (9 + i)
      have hal : Below wr.heap.size wr (wr.alloc (.cells ((zerosL 16).map intV).toArray 3)) := (Below.refl _ _).alloc (Nat.le_refl _) _
      have hcc2 := (htq.box.below hal).cs i hi
      have hcf2 := (htq.box.below hal).frozen (9 + i)
      have Y := hid (htq.addS H i hvs.symm hi)
      have HI := hid hi
      clear hvs hvl hLl htq hal hi hij
      go_wp2_with fail
      go_roundg (gk - 1)
      case measure => have := IJ.out; have := HI.out; omega
      case rel =>
        refine ⟨i + 1, _, _, by have := IJ.out; have := HI.out; omega, by go_num, ?_, fun j hj => ?_, List.mem_cons_of_mem _ X.out.2.2.1, Y.out⟩
        · rw [List.length_append, X.out.1]; rfl
        · rw [getD_snoc, X.out.1]
          by_cases e : j = i
          · rw [if_pos e]; exact List.mem_cons_self
          · rw [if_neg e]; exact List.mem_cons_of_mem _ (X.out.2.1 j (by omega))
    obtain ⟨pm0, pm1, pm2, pm3, plv, pv0, pv1, pv2, pv3, pl0, pl1, pl2, pl3, ps, P⟩ : ∃ (m0 m1 m2 m3 : Int) (lv v0 v1 v2 v3 : Value) (l0 l1 l2 l3 : List Int) (s : SqS), Hid (TP M At w F pr true st L s m0 m1 m2 m3 lv v0 v1 v2 v3 l0 l1 l2 l3 wr) := by
        obtain ⟨u0, u1, u2, u3, hu⟩ : ∃ u0 u1 u2 u3, vs = [u0, u1, u2, u3] := by
          match vs, hvs with
          | [a, b, c, d], _ => exact ⟨a, b, c, d, rfl⟩
        subst hu
        have hz : (zerosL 16).length = 16 ∧ (zerosL 16).any lvOut = false := ⟨by decide +kernel, by decide +kernel⟩
        refine ⟨0, 0, 0, 0, _, u0, u1, u2, u3, zerosL 16, zerosL 16, zerosL 16, zerosL 16, zeroS, hid ⟨PR.out, htq, rfl, rfl, ⟨by decide, by decide⟩, fun _ p hp => ?_, fun _ => ⟨hLl, by decide +kernel, by decide +kernel⟩⟩⟩
        simp only [List.mem_cons, List.not_mem_nil, or_false] at hp
        rcases hp with rfl | rfl | rfl | rfl
        · exact ⟨hvl 0 (by omega), hz⟩
        · exact ⟨hvl 1 (by omega), hz⟩
        · exact ⟨hvl 2 (by omega), hz⟩
        · exact ⟨hvl 3 (by omega), hz⟩
    clear X hvs hvl hLl htq hij IJ PR hmk64 hmk16 TS HR S2
  have hcut : cut ps.kind 0 3 = ps.kind := cut_eq P.out.k.1 P.out.k.2
  have hal : Below wr.heap.size wr (wr.alloc (.cells #[.int .i64 0, .int .i64 0, .int .i64 0, .int .i64 0, .int .i64 0, .int .i64 0, .int .i64 0, .int .i64 0, nilS, nilS, nilS, nilS, nilS] 36)) := (Below.refl _ _).alloc (Nat.le_refl _) _
  have T5 := hid (P.out.t.below H hal)
  have hbk5 := T5.out.box.c0
  have hbk4 := P.out.t.box.c0
  have hm2 := Sp.flat
  have hcb2 := Sp.callFlat
  have hnl := Sp2.nilFlat
  have hkd := kind_any b T H Sp ps.kind st _ F lim T5.out.c.a S.out.2.1 (by omega)
  rw [hcut] at hkd
  have HKD := hid hkd
  have HFD := hid (H.flatN _ F st (ps.kind == 3) lim T5.out.c.a S.out.2.1 (by omega))
  have hout5 : SqBlk (wr.alloc (.cells #[.int .i64 0, .int .i64 0, .int .i64 0, .int .i64 0, .int .i64 0, .int .i64 0, .int .i64 0, .int .i64 0, nilS, nilS, nilS, nilS, nilS] 36)) wr.heap.size 36 0 0 [] 0 0 nilS [] := SqBlk.new (Blk.new _ _ _) rfl
  have hF5 : ¬ F wr.heap.size := fun e => by have := H.there _ _ _ _ P.out.t.c.a e; omega
  clear hcut hal hkd T5
  go_wp2_with fail
  clear hbk4 hbk5
  refine HFD.out.mono ?_
  rintro e w6 ⟨rfl, hm6, _⟩
  obtain ⟨F6, c6⟩ := CW.of_moved hm6
  clear hm6 HKD HFD
  cases hq : (M.flat st (ps.kind == 3)).1 with
  | true =>
    have hd : M.run (headA true ps.kind) st = (3, (M.flat st (ps.kind == 3)).2) := by
      show ((if (M.flat st (ps.kind == 3)).1 = true then (3 : Int) else 2), (M.flat st (ps.kind == 3)).2) = _
      rw [hq]
      rfl
    clear hq
    have U := hid (UQ.of H P.out c6 hd)
    have hoc6 := (hout5.keep c6.o hF5).c0
    have hof6 := (hout5.keep c6.o hF5).frozen 0
    obtain ⟨⟨q0, q1⟩, ⟨q2, q3, q4, q5⟩, ⟨q6, q7, q8⟩, q9, q10, q11, q12⟩ := U.out.t.box.all4
    obtain ⟨n6, hn6, hok6⟩ := H.okRun (headA true ps.kind) 3 (ctx_head _ _) (most_head _ _) st lim S.out.2.1
    rw [hd] at hok6
    have OK6 := hid (And.intro hok6 hn6)
    clear c6 hd hok6 hn6
    go_wp2_with fail
    clear q0 q1 q2 q3 q4 q5 q6 q7 q8 q9 q10 q11 q12 hoc6 hof6
    generalize w6.setCell ⟨wr.heap.size, 0, none⟩ _ = w66 at *
    refine (sparts_any b T H Sp Sp2 _ ps pm0 pm1 pm2 pm3 plv pv0 pv1 pv2 pv3 pl0 pl1 pl2 pl3 3 wr.heap.size (M.flat st (ps.kind == 3)).2 _ F6 n6 ⟨rfl, U.out.em⟩ U.out.es U.out.k U.out.t.c.a OK6.out.1 (by have := OK6.out.2; omega) U.out.out U.out.nF U.out.e3 U.out.e12).mono ?_
    rintro e w7 ⟨F7, hpw, hc7, hres⟩
    obtain ⟨⟨ro, t⟩, st8, hr⟩ : ∃ (q : R20) (st8 : σ), M.run (restA 3 ps) (M.flat st (ps.kind == 3)).2 = (q, st8) := ⟨_, _, rfl⟩
    rw [hr] at hpw hres
    have hfin : M.run pr st = ((ro, t), st8) := U.out.pr.trans hr
    have hkind : t.kind = 3 := by
      have h := rest_kind M 3 ps (M.flat st (ps.kind == 3)).2
      rw [hr] at h
      exact h
    have hfour : ro = none → Four t := fun e => by
      have h := rest_four M 3 ps ⟨by rw [U.out.em]; rfl, by rw [U.out.es]; rfl⟩ (M.flat st (ps.kind == 3)).2
      rw [hr] at h
      exact h e
    obtain ⟨hrF, hrB⟩ := U.out.t.far hpw (by have := U.out.ow; omega)
    have hcw := U.out.t.done hpw (by have := U.out.ow; omega)
    have hrl := U.out.t.res.lt
    obtain ⟨⟨r0, r1⟩, ⟨r2, r3, r4, r5⟩, ⟨r6, r7, r8⟩, r9, r10, r11, r12⟩ := hrB.all4'
    have f0 := hrB.frozen 0
    have f1 := hrB.frozen 1
    have f2 := hrB.frozen 2
    have f3 := hrB.frozen 3
    have f4 := hrB.frozen 4
    have f5 := hrB.frozen 5
    have f6 := hrB.frozen 6
    have f7 := hrB.frozen 7
    have f8 := hrB.frozen 8
    have f9 := hrB.frozen 9
    have f10 := hrB.frozen 10
    have f11 := hrB.frozen 11
    have f12 := hrB.frozen 12
    cases ro with
    | none =>
      dsimp only at hres
      obtain ⟨rfl, lvt, vst, hblk, hlL, hlS⟩ := hres
      have h4 := hfour rfl
      obtain ⟨n0, n1, n2, n3, hmm⟩ : ∃ n0 n1 n2 n3, t.modes = [n0, n1, n2, n3] := ⟨_, _, _, _, getD4 0 h4.1⟩
      rw [hmm] at hblk
      obtain ⟨⟨o0, o1⟩, ⟨o2, o3, o4, o5⟩, ⟨o6, o7, o8⟩, o9, o10, o11, o12⟩ := (hblk.getD4 (ms' := [n0, n1, n2, n3]) (vs' := [vst.getD 0 nilS, vst.getD 1 nilS, vst.getD 2 nilS, vst.getD 3 nilS]) (fun _ _ => rfl) (fun j hj => vs4 vst j hj)).all4
      have hz := hrB.set13 t.kind t.mode n0 n1 n2 n3 t.x t.y lvt (vst.getD 0 nilS) (vst.getD 1 nilS) (vst.getD 2 nilS) (vst.getD 3 nilS)
      obtain ⟨⟨z0, z1⟩, ⟨z2, z3, z4, z5⟩, ⟨z6, z7, z8⟩, z9, z10, z11, z12⟩ := hz.all4
      have V := hid (And.intro hfin (And.intro hrF (And.intro hcw (And.intro hrl (And.intro hlL (And.intro hlS (And.intro hmm h4)))))))
      clear hfin hrF hcw hrl hlL hlS h4 hmm hblk hz hfour hkind hr hrB hpw hc7
      have ofm := o8
      obtain ⟨LA, ln, hlvt⟩ := (lst_form V.out.2.2.2.2.1)
      subst hlvt
      obtain ⟨SA0, sn0, hs0⟩ := (lst_form (V.out.2.2.2.2.2.1 0 (by omega)))
      obtain ⟨SA1, sn1, hs1⟩ := (lst_form (V.out.2.2.2.2.2.1 1 (by omega)))
      obtain ⟨SA2, sn2, hs2⟩ := (lst_form (V.out.2.2.2.2.2.1 2 (by omega)))
      obtain ⟨SA3, sn3, hs3⟩ := (lst_form (V.out.2.2.2.2.2.1 3 (by omega)))
      rw [hs0] at o9 z0 z1 z2 z3 z4 z5 z6 z7 z8 z9 z10 z11 z12
      rw [hs1] at o10 z0 z1 z2 z3 z4 z5 z6 z7 z8 z9 z10 z11 z12
      rw [hs2] at o11 z0 z1 z2 z3 z4 z5 z6 z7 z8 z9 z10 z11 z12
      rw [hs3] at o12 z0 z1 z2 z3 z4 z5 z6 z7 z8 z9 z10 z11 z12
      have HS := hid (And.intro hs0 (And.intro hs1 (And.intro hs2 hs3)))
      clear hs0 hs1 hs2 hs3 ofm
      go_wp2_with fail
      exact bodyPost_ret (v := .tuple #[sqV t.kind t.mode n0 n1 n2 n3 t.x t.y (.slice LA ln ln) (.slice SA0 sn0 sn0) (.slice SA1 sn1 sn1) (.slice SA2 sn2 sn2) (.slice SA3 sn3 sn3), .nilIface]) (by simp [sqV, results, Tryz.results10, go_sem, z0, z1, z2, z3, z4, z5, z6, z7, z8, z9, z10, z11, z12]) rfl (by
        obtain ⟨hfin, hrF, hcw, hrl, hlL, hlS, hmm, h4⟩ := V.out
        obtain ⟨hs0, hs1, hs2, hs3⟩ := HS.out
        have g0 := hlS 0 (by omega)
        have g1 := hlS 1 (by omega)
        have g2 := hlS 2 (by omega)
        have g3 := hlS 3 (by omega)
        rw [hs0] at g0
        rw [hs1] at g1
        rw [hs2] at g2
        rw [hs3] at g3
        refine ⟨F7, by rw [hfin]; exact CW.set13 H hcw hrF (by omega) _ _ _ _ _ _ _ _ _ _ _ _ _, ?_⟩
        rw [hfin]
        have hsz := U.out.t.c.o.size
        exact ⟨_, rfl, _, _, _, _, _, _, _, _, _, _, _, _, _, rfl, hmm, getD4 [] h4.2, (hlL.set13 hrl _ _ _ _ _ _ _ _ _ _ _ _ _).earlier hsz, (g0.set13 hrl _ _ _ _ _ _ _ _ _ _ _ _ _).earlier hsz, (g1.set13 hrl _ _ _ _ _ _ _ _ _ _ _ _ _).earlier hsz, (g2.set13 hrl _ _ _ _ _ _ _ _ _ _ _ _ _).earlier hsz, (g3.set13 hrl _ _ _ _ _ _ _ _ _ _ _ _ _).earlier hsz⟩)
    | some i =>
      dsimp only at hres
      obtain ⟨ev, rfl, hev⟩ := hres
      obtain ⟨tv, xv, hevf⟩ := hev.form
      subst hevf
      have V := hid (And.intro hfin (And.intro hrF (And.intro hcw (And.intro hrl (And.intro hev (And.intro hkind hrB))))))
      clear hfin hrF hcw hrl hev hfour hkind hr hrB hpw r0 r1 r2 r3 r4 r5 r6 r7 r8 r9 r10 r11 r12 f0 f1 f2 f3 f4 f5 f6 f7 f8 f9 f10 f11 f12
      go_wp2_with fail
      refine (in_any _ _ 3 [(⟨#[99, 111, 101, 102]⟩, (i : Int))] _ _ (by exact V.out.2.2.2.2.1)).mono ?_
      rintro e w8 ⟨ev2, rfl, hev2, hb8⟩
      obtain ⟨tv2, xv2, hevf2⟩ := hev2.form
      subst hevf2
      have hrB := V.out.2.2.2.2.2.2.below hb8
      obtain ⟨⟨r0, r1⟩, ⟨r2, r3, r4, r5⟩, ⟨r6, r7, r8⟩, r9, r10, r11, r12⟩ := hrB.all4'
      have f0 := hrB.frozen 0
      have f1 := hrB.frozen 1
      have f2 := hrB.frozen 2
      have f3 := hrB.frozen 3
      have f4 := hrB.frozen 4
      have f5 := hrB.frozen 5
      have f6 := hrB.frozen 6
      have f7 := hrB.frozen 7
      have f8 := hrB.frozen 8
      have f9 := hrB.frozen 9
      have f10 := hrB.frozen 10
      have f11 := hrB.frozen 11
      have f12 := hrB.frozen 12
      have hz := hrB.set13 0 0 0 0 0 0 0 0 nilS nilS nilS nilS nilS
      obtain ⟨⟨z0, z1⟩, ⟨z2, z3, z4, z5⟩, ⟨z6, z7, z8⟩, z9, z10, z11, z12⟩ := hz.all4
      have VV := hid (And.intro hev2 (And.intro hb8 hrB))
      clear hev2 hb8 hrB hz hc7
      go_wp2_with fail
      exact bodyPost_ret (v := .tuple #[zeroV, .iface tv2 xv2]) (by simp [zeroV, sqV, results, Tryz.results10, go_sem, z0, z1, z2, z3, z4, z5, z6, z7, z8, z9, z10, z11, z12]) rfl (by
        obtain ⟨hfin, hrF, hcw, hrl, hev, hkind, _⟩ := V.out
        refine ⟨F7, by rw [hfin]; exact CW.set13 H (hcw.below H VV.out.2.1) hrF (by omega) _ _ _ _ _ _ _ _ _ _ _ _ _, ?_⟩
        rw [hfin]
        refine ⟨_, rfl, ?_⟩
        dsimp only
        rw [hkind]
        exact errv_set13 VV.out.1 VV.out.2.2 (by decide) _ _ _ _ _ _ _ _ _ _ _ _ _)
  | false =>
    have hd : M.run (headA true ps.kind) st = (2, (M.flat st (ps.kind == 3)).2) := by
      show ((if (M.flat st (ps.kind == 3)).1 = true then (3 : Int) else 2), (M.flat st (ps.kind == 3)).2) = _
      rw [hq]
      rfl
    clear hq
    have U := hid (UQ.of H P.out c6 hd)
    have hoc6 := (hout5.keep c6.o hF5).c0
    have hof6 := (hout5.keep c6.o hF5).frozen 0
    obtain ⟨⟨q0, q1⟩, ⟨q2, q3, q4, q5⟩, ⟨q6, q7, q8⟩, q9, q10, q11, q12⟩ := U.out.t.box.all4
    obtain ⟨n6, hn6, hok6⟩ := H.okRun (headA true ps.kind) 3 (ctx_head _ _) (most_head _ _) st lim S.out.2.1
    rw [hd] at hok6
    have OK6 := hid (And.intro hok6 hn6)
    clear c6 hd hok6 hn6
    go_wp2_with fail
    clear q0 q1 q2 q3 q4 q5 q6 q7 q8 q9 q10 q11 q12 hoc6 hof6
    generalize w6.setCell ⟨wr.heap.size, 0, none⟩ _ = w66 at *
    refine (sparts_any b T H Sp Sp2 _ ps pm0 pm1 pm2 pm3 plv pv0 pv1 pv2 pv3 pl0 pl1 pl2 pl3 2 wr.heap.size (M.flat st (ps.kind == 3)).2 _ F6 n6 ⟨rfl, U.out.em⟩ U.out.es U.out.k U.out.t.c.a OK6.out.1 (by have := OK6.out.2; omega) U.out.out U.out.nF U.out.e3 U.out.e12).mono ?_
    rintro e w7 ⟨F7, hpw, hc7, hres⟩
    obtain ⟨⟨ro, t⟩, st8, hr⟩ : ∃ (q : R20) (st8 : σ), M.run (restA 2 ps) (M.flat st (ps.kind == 3)).2 = (q, st8) := ⟨_, _, rfl⟩
    rw [hr] at hpw hres
    have hfin : M.run pr st = ((ro, t), st8) := U.out.pr.trans hr
    have hkind : t.kind = 2 := by
      have h := rest_kind M 2 ps (M.flat st (ps.kind == 3)).2
      rw [hr] at h
      exact h
    have hfour : ro = none → Four t := fun e => by
      have h := rest_four M 2 ps ⟨by rw [U.out.em]; rfl, by rw [U.out.es]; rfl⟩ (M.flat st (ps.kind == 3)).2
      rw [hr] at h
      exact h e
    obtain ⟨hrF, hrB⟩ := U.out.t.far hpw (by have := U.out.ow; omega)
    have hcw := U.out.t.done hpw (by have := U.out.ow; omega)
    have hrl := U.out.t.res.lt
    obtain ⟨⟨r0, r1⟩, ⟨r2, r3, r4, r5⟩, ⟨r6, r7, r8⟩, r9, r10, r11, r12⟩ := hrB.all4'
    have f0 := hrB.frozen 0
    have f1 := hrB.frozen 1
    have f2 := hrB.frozen 2
    have f3 := hrB.frozen 3
    have f4 := hrB.frozen 4
    have f5 := hrB.frozen 5
    have f6 := hrB.frozen 6
    have f7 := hrB.frozen 7
    have f8 := hrB.frozen 8
    have f9 := hrB.frozen 9
    have f10 := hrB.frozen 10
    have f11 := hrB.frozen 11
    have f12 := hrB.frozen 12
    cases ro with
    | none =>
      dsimp only at hres
      obtain ⟨rfl, lvt, vst, hblk, hlL, hlS⟩ := hres
      have h4 := hfour rfl
      obtain ⟨n0, n1, n2, n3, hmm⟩ : ∃ n0 n1 n2 n3, t.modes = [n0, n1, n2, n3] := ⟨_, _, _, _, getD4 0 h4.1⟩
      rw [hmm] at hblk
      obtain ⟨⟨o0, o1⟩, ⟨o2, o3, o4, o5⟩, ⟨o6, o7, o8⟩, o9, o10, o11, o12⟩ := (hblk.getD4 (ms' := [n0, n1, n2, n3]) (vs' := [vst.getD 0 nilS, vst.getD 1 nilS, vst.getD 2 nilS, vst.getD 3 nilS]) (fun _ _ => rfl) (fun j hj => vs4 vst j hj)).all4
      have hz := hrB.set13 t.kind t.mode n0 n1 n2 n3 t.x t.y lvt (vst.getD 0 nilS) (vst.getD 1 nilS) (vst.getD 2 nilS) (vst.getD 3 nilS)
      obtain ⟨⟨z0, z1⟩, ⟨z2, z3, z4, z5⟩, ⟨z6, z7, z8⟩, z9, z10, z11, z12⟩ := hz.all4
      have V := hid (And.intro hfin (And.intro hrF (And.intro hcw (And.intro hrl (And.intro hlL (And.intro hlS (And.intro hmm h4)))))))
      clear hfin hrF hcw hrl hlL hlS h4 hmm hblk hz hfour hkind hr hrB hpw hc7
      have ofm := o8
      obtain ⟨LA, ln, hlvt⟩ := (lst_form V.out.2.2.2.2.1)
      subst hlvt
      obtain ⟨SA0, sn0, hs0⟩ := (lst_form (V.out.2.2.2.2.2.1 0 (by omega)))
      obtain ⟨SA1, sn1, hs1⟩ := (lst_form (V.out.2.2.2.2.2.1 1 (by omega)))
      obtain ⟨SA2, sn2, hs2⟩ := (lst_form (V.out.2.2.2.2.2.1 2 (by omega)))
      obtain ⟨SA3, sn3, hs3⟩ := (lst_form (V.out.2.2.2.2.2.1 3 (by omega)))
      rw [hs0] at o9 z0 z1 z2 z3 z4 z5 z6 z7 z8 z9 z10 z11 z12
      rw [hs1] at o10 z0 z1 z2 z3 z4 z5 z6 z7 z8 z9 z10 z11 z12
      rw [hs2] at o11 z0 z1 z2 z3 z4 z5 z6 z7 z8 z9 z10 z11 z12
      rw [hs3] at o12 z0 z1 z2 z3 z4 z5 z6 z7 z8 z9 z10 z11 z12
      have HS := hid (And.intro hs0 (And.intro hs1 (And.intro hs2 hs3)))
      clear hs0 hs1 hs2 hs3 ofm
      go_wp2_with fail
      exact bodyPost_ret (v := .tuple #[sqV t.kind t.mode n0 n1 n2 n3 t.x t.y (.slice LA ln ln) (.slice SA0 sn0 sn0) (.slice SA1 sn1 sn1) (.slice SA2 sn2 sn2) (.slice SA3 sn3 sn3), .nilIface]) (by simp [sqV, results, Tryz.results10, go_sem, z0, z1, z2, z3, z4, z5, z6, z7, z8, z9, z10, z11, z12]) rfl (by
        obtain ⟨hfin, hrF, hcw, hrl, hlL, hlS, hmm, h4⟩ := V.out
        obtain ⟨hs0, hs1, hs2, hs3⟩ := HS.out
        have g0 := hlS 0 (by omega)
        have g1 := hlS 1 (by omega)
        have g2 := hlS 2 (by omega)
        have g3 := hlS 3 (by omega)
        rw [hs0] at g0
        rw [hs1] at g1
        rw [hs2] at g2
        rw [hs3] at g3
        refine ⟨F7, by rw [hfin]; exact CW.set13 H hcw hrF (by omega) _ _ _ _ _ _ _ _ _ _ _ _ _, ?_⟩
        rw [hfin]
        have hsz := U.out.t.c.o.size
        exact ⟨_, rfl, _, _, _, _, _, _, _, _, _, _, _, _, _, rfl, hmm, getD4 [] h4.2, (hlL.set13 hrl _ _ _ _ _ _ _ _ _ _ _ _ _).earlier hsz, (g0.set13 hrl _ _ _ _ _ _ _ _ _ _ _ _ _).earlier hsz, (g1.set13 hrl _ _ _ _ _ _ _ _ _ _ _ _ _).earlier hsz, (g2.set13 hrl _ _ _ _ _ _ _ _ _ _ _ _ _).earlier hsz, (g3.set13 hrl _ _ _ _ _ _ _ _ _ _ _ _ _).earlier hsz⟩)
    | some i =>
      dsimp only at hres
      obtain ⟨ev, rfl, hev⟩ := hres
      obtain ⟨tv, xv, hevf⟩ := hev.form
      subst hevf
      have V := hid (And.intro hfin (And.intro hrF (And.intro hcw (And.intro hrl (And.intro hev (And.intro hkind hrB))))))
      clear hfin hrF hcw hrl hev hfour hkind hr hrB hpw r0 r1 r2 r3 r4 r5 r6 r7 r8 r9 r10 r11 r12 f0 f1 f2 f3 f4 f5 f6 f7 f8 f9 f10 f11 f12
      go_wp2_with fail
      refine (in_any _ _ 3 [(⟨#[99, 111, 101, 102]⟩, (i : Int))] _ _ (by exact V.out.2.2.2.2.1)).mono ?_
      rintro e w8 ⟨ev2, rfl, hev2, hb8⟩
      obtain ⟨tv2, xv2, hevf2⟩ := hev2.form
      subst hevf2
      have hrB := V.out.2.2.2.2.2.2.below hb8
      obtain ⟨⟨r0, r1⟩, ⟨r2, r3, r4, r5⟩, ⟨r6, r7, r8⟩, r9, r10, r11, r12⟩ := hrB.all4'
      have f0 := hrB.frozen 0
      have f1 := hrB.frozen 1
      have f2 := hrB.frozen 2
      have f3 := hrB.frozen 3
      have f4 := hrB.frozen 4
      have f5 := hrB.frozen 5
      have f6 := hrB.frozen 6
      have f7 := hrB.frozen 7
      have f8 := hrB.frozen 8
      have f9 := hrB.frozen 9
      have f10 := hrB.frozen 10
      have f11 := hrB.frozen 11
      have f12 := hrB.frozen 12
      have hz := hrB.set13 0 0 0 0 0 0 0 0 nilS nilS nilS nilS nilS
      obtain ⟨⟨z0, z1⟩, ⟨z2, z3, z4, z5⟩, ⟨z6, z7, z8⟩, z9, z10, z11, z12⟩ := hz.all4
      have VV := hid (And.intro hev2 (And.intro hb8 hrB))
      clear hev2 hb8 hrB hz hc7
      go_wp2_with fail
      exact bodyPost_ret (v := .tuple #[zeroV, .iface tv2 xv2]) (by simp [zeroV, sqV, results, Tryz.results10, go_sem, z0, z1, z2, z3, z4, z5, z6, z7, z8, z9, z10, z11, z12]) rfl (by
        obtain ⟨hfin, hrF, hcw, hrl, hev, hkind, _⟩ := V.out
        refine ⟨F7, by rw [hfin]; exact CW.set13 H (hcw.below H VV.out.2.1) hrF (by omega) _ _ _ _ _ _ _ _ _ _ _ _ _, ?_⟩
        rw [hfin]
        refine ⟨_, rfl, ?_⟩
        dsimp only
        rw [hkind]
        exact errv_set13 VV.out.1 VV.out.2.2 (by decide) _ _ _ _ _ _ _ _ _ _ _ _ _)
end
end Go.Proofs.YtkkgpdejmcpcpaaGreatDoor

