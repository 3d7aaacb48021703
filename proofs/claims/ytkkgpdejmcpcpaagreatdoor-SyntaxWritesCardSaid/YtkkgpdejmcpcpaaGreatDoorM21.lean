/- Parts: XCoefC, XTwo, XNewC, XFirst14. -/
import Derived.Test.YtkkgpdejmcpcpaaGreatDoorM20
import Derived.Deep.RegionHeldLaw
import Derived.Test.YtkkgpdejmcpcpaaGreatDoorM15
import Derived.Test.YtkkgpdejmcpcpaaGreatDoorM13
import Derived.Test.YtkkgpdejmcpcpaaGreatDoorM01
/- Chapter 14: coef.Code at whatever coder. -/
namespace Go.Proofs.YtkkgpdejmcpcpaaGreatDoor
open Go.RowKit
section
variable {σ : Type} {M : Mach σ} {fB fF : FuncId} {At : World → (Nat → Prop) → σ → Prop} {Ok : σ → Nat → Prop}
set_option maxRecDepth 100000 in
set_option maxHeartbeats 8000000 in
theorem code_any (b : Nat) (T : TypeId) (H : IsCoder M fB fF (.pointer (some ⟨b, 0, none⟩)) At Ok) (Sp : Speaks T (.pointer (some ⟨b, 0, none⟩)) fB fF) (Sp2 : Speaks2 T (.pointer (some ⟨b, 0, none⟩))) (sd base : Nat) (x : Value) (l : List Int)
    (hsd : (sd = 4 ∧ base = 14 ∧ l.length = 16) ∨ (sd = 8 ∧ base = 39 ∧ l.length = 64)) (hin : l.any lvOut = false) (s : σ) (w : World) (F : Nat → Prop) (lim : Nat) (hs : At w F s) (ho : Ok s lim) (hl : lim + 10000 ≤ 1000000000) (hx : NOff x l w F) :
    Calls Tryz.prog 59 #[.iface T (.pointer (some ⟨b, 0, none⟩)), x] w (CodeRes M At w F (squareA base (ordOf sd) l) s) := by
  obtain ⟨A, cp, rfl, hcp⟩ := hx.n.form
  have S := hid (And.intro hs (And.intro ho hx))
  have hm := Sp.bit
  have hcb := Sp.callBit
  have hnl := Sp2.nilBit
  have HCK := hid (fun W (h : Nums W (.slice A l.length cp) l) => check_any _ l W h (by rcases hsd with h | h <;> omega))
  have hck0 : checkNo l = 0 := by unfold checkNo; rw [if_neg (by rcases hsd with h | h <;> omega), hin]; rfl
  rw [hck0, show codeV 0 = .nilIface from rfl] at HCK
  have HZ := hid (fun W (h : Nums W (.slice A l.length cp) l) => zero_any _ l W h (by rcases hsd with h | h <;> omega))
  have hsdl : 0 < l.length ∧ l.length ≤ 64 ∧ base ≤ 39 := by rcases hsd with h | h <;> omega
  have HSD := hid (And.intro hsd hsdl)
  have IN := hid hin
  have hord : (ordOf sd).length = l.length := by
    rcases hsd with ⟨rfl, _, h⟩ | ⟨rfl, _, h⟩
    · rw [ord4_ok.len, h]
    · rw [ord8_ok.len, h]
  have hordlt : ∀ a ∈ ordOf sd, a < l.length := by
    rcases hsd with ⟨rfl, _, h⟩ | ⟨rfl, _, h⟩
    · rw [h]; exact ord4_ok.lt
    · rw [h]; exact ord8_ok.lt
  have HO := hid (fun W => order_any sd (by rcases hsd with h | h <;> omega) W)
  have HB : Hid (∀ W, Calls Tryz.prog 81 #[.int .i64 (sd : Int)] W fun e w' => e = .returned (.int .i64 (base : Int)) ∧ w' = W) := hid (by
    intro W
    rcases hsd with ⟨rfl, rfl, _⟩ | ⟨rfl, rfl, _⟩
    · exact base4 W
    · exact base8 W)
  unfold OrdRes at HO
  generalize ordOf sd = ord at *
  have OL := hid (And.intro hord hordlt)
  clear hs ho hx hck0 hsd hsdl hin hord hordlt
  go_enter Tryz.func59, Tryz.ntmps59
  go_wp2_with fail
  refine (HCK.out _ (by exact S.out.2.2.n)).mono ?_
  rintro e w1 ⟨rfl, rfl⟩
  go_upto_if 26 with fail
  go_cut [7] from 24 to 26 (fun v W => v = .int .i64 (sd : Int) ∧ w1 = W)
  case first =>
    rcases HSD.out.1 with ⟨rfl, h2, h3⟩ | ⟨rfl, h2, h3⟩
    · have d1 : ((l.length : Int) == 64) = false := by simp; omega
      clear h2 h3
      go_wp2_with fail
      go_meet
      exact ⟨rfl, rfl⟩
    · have d1 : ((l.length : Int) == 64) = true := by simp; omega
      clear h2 h3
      go_wp2_with fail
      go_meet
      exact ⟨rfl, rfl⟩
  case rest =>
    obtain ⟨rfl, rfl⟩ := hcut
    go_wp2_with fail
    refine (HB.out _).mono ?_
    rintro e w2 ⟨rfl, rfl⟩
    go_wp2_with fail
    refine (HO.out _).mono ?_
    rintro e w3 ⟨ov, rfl, ho3, hb3⟩
    obtain ⟨OA, oc, hov, _⟩ := (Nums.of_own (l := ord.map fun n : Nat => (n : Int)) (by rw [← natV_intV]; exact ho3) (by simp)).form
    rw [List.length_map, OL.out.1] at hov
    subst hov
    have hl1 := HSD.out.2
    have hmk := run_make_int l.length (by omega)
    have hq4 := Sq.start H l.length S.out.1 S.out.2.2 ho3 hb3
    obtain ⟨g, hg⟩ : ∃ g, w3.heap.size = g := ⟨_, rfl⟩
    rw [hg] at hq4
    have Q4 := hid hq4
    clear ho3 hb3 hq4
    go_wp2_with fail
    generalize w3.alloc (.cells ((zerosL l.length).map intV).toArray 3) = w4 at *
    clear hg hmk
    have Q4d := hid (Q4.out.below H (Below.refl w4.heap.size w4).drew)
    go_cut [46] from 37 to 45 (fun v W => v = .bool (!(M.bit s base (notZ l)).1) ∧ ∃ (w5 : World) (F5 : Nat → Prop), w5 = W ∧ Sq At w2 F (.slice A l.length cp) l (.slice OA l.length oc) ord g (zerosL l.length) (M.bit s base (notZ l)).2 w5 F5 ∧ Ok (M.bit s base (notZ l)).2 (lim + 3))
    case first =>
      go_region_held_law (fun _ => True) (exact trivial)
        (first
          | (go_at_call 83
             refine (HZ.out _ (by exact Q4d.out.xo.n)).mono ?_
             rintro e w5 ⟨rfl, rfl⟩)
          | (refine (H.bitN _ F s base _ rfl (by omega) _ lim (by exact Q4d.out.cw.a) S.out.2.1 (by omega)).mono ?_
             rintro e w5 ⟨rfl, h5, ok5⟩
             obtain ⟨F5, hq5⟩ := Q4d.out.moved h5
             have Q5 := hid (And.intro hq5 ok5)
             clear h5 hq5 ok5))
      all_goals
        go_wp2_with fail
        go_meet
        exact ⟨rfl, _, F5, rfl, Q5.out.1, Q5.out.2⟩
    case rest =>
     obtain ⟨rfl, w5, F5, rfl, hq5, hok5⟩ := hcut
     have Q5 := hid (And.intro hq5 hok5)
     clear hq5 hok5 Q4 Q4d
     have SQ0 := hid (show M.run (squareA base ord l) s = M.run (if (M.bit s base (notZ l)).1 then sqA base (l.length - 1) l ord 0 (countL l) (zerosL l.length) else .ret (none, zerosL l.length)) (M.bit s base (notZ l)).2 from rfl)
     cases hq : (M.bit s base (notZ l)).1 with
     | false =>
       have HF := SQ0.out
       rw [hq] at HF
       have SQ := hid (HF.trans (by rfl : _ = ((none, zerosL l.length), (M.bit s base (notZ l)).2)))
       clear hq HF
       go_wp2_with fail
       go_ret2
       refine ⟨F5, ?_⟩
       rw [SQ.out]
       exact ⟨Q5.out.1.cw, SqAns.told rfl (by simp [zerosL]) Q5.out.1.go⟩
     | true =>
       have HF := SQ0.out
       rw [hq] at HF
       have SQ := hid (HF.trans (by rfl : _ = M.run (sqA base (l.length - 1) l ord 0 (countL l) (zerosL l.length)) (M.bit s base (notZ l)).2))
       clear hq HF
       generalize (M.bit s base (notZ l)).2 = s0 at *
       have hlb : (0 : Int) ≤ (l.length : Int) ∧ (l.length : Int) ≤ 64 := by omega
       go_wp2_with fail
       go_loopg [12, 50] l.length (fun k lv iv wr => ∃ i : Nat, i + k = l.length ∧ lv = .int .i64 (countL (l.take i)) ∧ iv = .int .i64 i ∧ w5 = wr)
       case atStart => exact ⟨0, by omega, rfl, rfl, rfl⟩
       case round =>
         obtain ⟨i, hik, rfl, rfl, rfl⟩ := hrel
         by_cases hlt : i < l.length
         · obtain ⟨v, hv⟩ : ∃ v, l[i]? = some v := ⟨l[i], List.getElem?_eq_getElem hlt⟩
           have hct := count_take hv
           have hcb2 := count_bound (l.take i)
           have hcl : ((l.take i).length : Int) ≤ 64 := by rw [List.length_take]; omega
           obtain ⟨b0, o0, rfl, _, p0⟩ := Q5.out.1.xo.n.at_ hv
           have k0 : (0 : Int) ≤ (i : Int) := by omega
           have k1 : (i : Int) < (l.length : Int) := by omega
           have d1 : decide ((i : Int) < (l.length : Int)) = true := by simp; omega
           have d2 : decide (i < l.length) = true := by simp; omega
           have FF := hid (And.intro hik (And.intro hlt hct))
           have hcb3 : (0 : Int) ≤ countL (l.take i) ∧ countL (l.take i) ≤ 64 := by omega
           generalize countL (l.take i) = ct at *
           clear hik hlt hct hv hcb2 hcl
           have hvz : ((v != 0) = true ∧ v ≠ 0) ∨ ((v != 0) = false ∧ v = 0) := by by_cases h : v = 0 <;> simp [h]
           rcases hvz with ⟨h1, h2⟩ | ⟨h1, h2⟩
           · have HV := hid h2
             clear h2
             go_wp2_with fail
             go_roundg (gk - 1)
             case measure => have := FF.out; omega
             case rel => exact ⟨i + 1, by have := FF.out; omega, by rw [FF.out.2.2, if_pos HV.out], by go_num, rfl⟩
           · have HV := hid h2
             clear h2
             go_wp2_with fail
             go_roundg (gk - 1)
             case measure => have := FF.out; omega
             case rel => exact ⟨i + 1, by have := FF.out; omega, by rw [FF.out.2.2, if_neg (fun h => h HV.out), Int.add_zero], by go_num, rfl⟩
         · obtain rfl : i = l.length := by omega
           have d1 : decide ((l.length : Int) < (l.length : Int)) = false := by simp
           have hct := count_bound l
           have hcb3 : (0 : Int) ≤ countL l ∧ countL l ≤ 64 := by omega
           rw [List.take_length]
           clear hik hlt hct
           go_wp2_with fail
           go_loopg [12, 61] l.length (fun k lv iv wr => ∃ (i : Nat) (left : Int) (out : List Int) (s1 : σ) (F1 : Nat → Prop), i + k = l.length ∧ lv = .int .i64 left ∧ iv = .int .i64 i ∧ (-(i : Int) ≤ left ∧ left ≤ 64) ∧ out.length = l.length ∧ Sq At w2 F (.slice A l.length cp) l (.slice OA l.length oc) ord g out s1 wr F1 ∧ (∃ m, m ≤ lim + 3 + 129 * i ∧ Ok s1 m) ∧ M.run (sqA base (l.length - 1) l (ord.drop i) i left out) s1 = M.run (sqA base (l.length - 1) l ord 0 (countL l) (zerosL l.length)) s0)
           case atStart => exact ⟨0, countL l, zerosL l.length, s0, F5, by omega, rfl, rfl, by omega, by simp [zerosL], Q5.out.1, ⟨lim + 3, by omega, Q5.out.2⟩, rfl⟩
           case round =>
             obtain ⟨i, left, out, s1, F1, hik, rfl, rfl, hlf, hol, hsq, ⟨m1, hm1, hok1⟩, hfin⟩ := hrel
             by_cases hlt : i < l.length
            -- ROUND
             · have hio : i < ord.length := by have := OL.out.1; omega
               obtain ⟨a, ha⟩ : ∃ a, ord[i]? = some a := ⟨ord[i], List.getElem?_eq_getElem hio⟩
               have hal := OL.out.2 a (List.mem_of_getElem? ha)
               obtain ⟨v, hv⟩ : ∃ v, l[a]? = some v := ⟨l[a], List.getElem?_eq_getElem hal⟩
               have hvd : l.getD a 0 = v := by rw [List.getD_eq_getElem?_getD, hv]; rfl
               have hvb : -16320 ≤ v ∧ v ≤ 16320 := by
                 apply lvOut_false
                 rw [Bool.eq_false_iff]
                 intro h
                 have := List.any_eq_true.2 ⟨v, List.mem_of_getElem? hv, h⟩
                 rw [IN.out] at this
                 exact Bool.noConfusion this
               rw [drop_ord ha] at hfin
               obtain ⟨b0, o0, rfl, _, p0⟩ := hsq.xo.n.at_ hv
               obtain ⟨b1, o1, rfl, _, p1⟩ := hsq.oo.n.at_ (show (ord.map fun n : Nat => (n : Int))[i]? = some (a : Int) by rw [List.getElem?_map, ha]; rfl)
               have k0 : (0 : Int) ≤ (i : Int) := by omega
               have k1 : (i : Int) < (l.length : Int) := by omega
               have k2 : (0 : Int) ≤ (a : Int) := by omega
               have k3 : (a : Int) < (l.length : Int) := by omega
               have d1 : decide ((i : Int) < (l.length : Int)) = true := by simp; omega
               have d2 : decide (i < l.length) = true := by simp; omega
               have hi64 : i < 64 := by omega
               have LF : Hid (((v != 0) = true ∧ leftN l a left = left - 1) ∨ ((v != 0) = false ∧ leftN l a left = left)) := hid (by
                 unfold leftN
                 rw [hvd]
                 by_cases h : v = 0
                 · exact .inr ⟨by rw [h]; rfl, if_neg (fun k => k h)⟩
                 · exact .inl ⟨bne_iff_ne.2 h, if_pos h⟩)
               have HLF : Hid (-(i : Int) - 1 ≤ leftN l a left ∧ leftN l a left ≤ 64) := hid (by rcases LF.out with ⟨_, h⟩ | ⟨_, h⟩ <;> omega)
               have VB := hid (And.intro hal (And.intro (And.intro hol hvb) hvd))
               have HI := hid (And.intro hik hlt)
               have QR := hid hsq
               have OKR := hid hok1
               have FINR := hid hfin
               have hevv : (v != 0) = decide (v ≠ 0) := bne_dec v
               have EV := hid hevv
               clear hio ha hal hv hvd hvb hik hlt hsq hok1 hfin hol hevv
               by_cases hil : i < l.length - 1
               · have d3 : decide ((i : Int) < (l.length : Int) - 1) = true := by simp; omega
                 go_wp2_with fail
                 refine (H.bitN _ F1 s1 (base + 1 + min i 7) _ (by omega) (by omega) _ m1 (by exact QR.out.cw.a) (by exact OKR.out) (by omega)).mono ?_
                 rintro e w7 ⟨rfl, h6, ok6⟩
                 obtain ⟨F7, hq6⟩ := QR.out.moved h6
                 have Q7 := hid (And.intro hq6 ok6)
                 clear h6 hq6 ok6
                 rw [EV.out] at Q7 ⊢
                 have hst := FINR.out.symm.trans (sq_in hil)
                 rw [VB.out.2.2] at hst
                 clear p0 p1
                 cases hq : (M.bit s1 (base + 1 + min i 7) (decide (v ≠ 0))).1 with
                 | false =>
                   rw [if_neg (by rw [hq]; decide)] at hst
                   have FIN7 := hid hst
                   clear hq hst
                   go_wp2_with fail
                   go_roundg (gk - 1)
                   case measure => have := HI.out; omega
                   case rel => exact ⟨i + 1, left, out, _, F7, by have := HI.out; omega, by rfl, by go_num, by omega, by have := VB.out; omega, Q7.out.1, ⟨m1 + 3, by omega, Q7.out.2⟩, FIN7.out.symm⟩
                 | true =>
                   rw [if_pos hq] at hst
                   have FIN1 := hid hst.symm
                   have Q77 := hid Q7.out.1
                   have OK1 := hid Q7.out.2
                   clear hq hst
                   generalize (M.bit s1 (base + 1 + min i 7) (decide (v ≠ 0))).2 = s7 at *
                   go_upto_if 86 with fail
                   go_cut [12] from 85 to 88 (fun v W => v = .int .i64 (leftN l a left) ∧ w7 = W)
                   case first =>
                     rcases LF.out with ⟨h0, h1⟩ | ⟨h0, h1⟩
                     all_goals
                       have H1 := hid h1
                       clear h1
                       go_wp2_with fail
                       go_meet
                       exact ⟨by rw [H1.out], rfl⟩
                   case rest =>
                     obtain ⟨rfl, rfl⟩ := hcut
                     generalize hlf : leftN l a left = lf at *
                     clear hlf
                     go_wp2_with fail
                     refine (level_any b T H Sp Sp2 base (by omega) v (by have := VB.out; omega) s7 _ _ _ (by exact Q77.out.cw.a) OK1.out (by omega)).mono ?_
                     rintro e w8 ⟨rfl, hm5⟩
                     obtain ⟨F8, hq5⟩ := Q77.out.moved hm5
                     obtain ⟨m5, hm5b, hok5⟩ := H.okRun (levelA base v) 41 (ctx_level base (by omega) v) (most_level base v) s7 _ OK1.out
                     have Q8 := hid (And.intro hq5 hok5)
                     clear hm5 hq5 hok5
                     obtain ⟨x5, s5, hx5⟩ : ∃ x5 s5, M.run (levelA base v) s7 = (x5, s5) := ⟨_, _, rfl⟩
                     have hx51 : (M.run (levelA base v) s7).1 = x5 := by rw [hx5]
                     have hx52 : (M.run (levelA base v) s7).2 = s5 := by rw [hx5]
                     rw [hx51]
                     rw [hx52] at Q8
                     have X5 := hid hx5
                     clear hx5 hx51 hx52
                     have hout : (lvOut x5 = true ∧ (decide (x5 < -16320) = true ∨ (decide (x5 < -16320) = false ∧ decide (16320 < x5) = true))) ∨ (lvOut x5 = false ∧ decide (x5 < -16320) = false ∧ decide (16320 < x5) = false) := by
                       unfold lvOut
                       cases decide (x5 < -16320) <;> cases decide (16320 < x5) <;> simp
                     rcases hout with ⟨hlo, hdd⟩ | ⟨hlo, hd1, hd2⟩
                     · have HF := FIN1.out.symm.trans (lv_out (by rw [VB.out.2.2]; exact X5.out) hlo)
                       have FIN5 := hid HF
                       clear HF hlo
                       rcases hdd with hd1 | ⟨hd1, hd2⟩
                       all_goals
                         go_wp2_with fail
                         refine (in_any _ _ 3 [] _ _ (by exact rfl)).mono ?_
                         rintro e w9 ⟨ev, rfl, hev, hb6⟩
                         have Q9 := hid (And.intro (Q8.out.1.below H hb6) hev)
                         clear hev hb6
                         go_wp2_with fail
                         go_ret2
                         refine ⟨F8, ?_⟩
                         rw [SQ.out, FIN5.out]
                         exact ⟨Q9.out.1.cw, SqAns.bad rfl Q9.out.2⟩
                     · skip
                       obtain ⟨old, hold⟩ : ∃ old, out[a]? = some old := ⟨out[a]'(by have := VB.out; omega), List.getElem?_eq_getElem (by have := VB.out; omega)⟩
                       have hco := Q8.out.1.go.b.cell a
                       rw [List.getElem?_toArray, List.getElem?_map, hold] at hco
                       have hfo := Q8.out.1.go.b.frozen a
                       have QP := hid (Q8.out.1.put H a x5)
                       have HLO := hid hlo
                       clear hold hlo
                       simp only [Option.map_some, intV] at hco
                       have HF := FIN1.out.symm.trans (lv_in (by rw [VB.out.2.2]; exact X5.out) HLO.out hil)
                       have FIN5 := hid HF
                       clear HF
                       go_wp2_with fail
                       clear hco hfo
                       refine (H.bitN _ F8 s5 (base + 9 + min i 7) _ (by omega) (by omega) _ m5 (by exact QP.out.cw.a) (by exact Q8.out.2) (by omega)).mono ?_
                       rintro e w10 ⟨rfl, h7, ok7⟩
                       obtain ⟨F10, hq7⟩ := QP.out.moved h7
                       have Q10 := hid (And.intro hq7 ok7)
                       clear h7 hq7 ok7
                       have e7 : (lf == 0) = decide (lf = 0) := rfl
                       rw [e7] at *
                       clear e7
                       cases hq : (M.bit s5 (base + 9 + min i 7) (decide (lf = 0))).1 with
                       | true =>
                         have FIN7 := hid (FIN5.out.trans (if_pos hq))
                         clear hq
                         go_wp2_with fail
                         go_ret2
                         refine ⟨F10, ?_⟩
                         rw [SQ.out, FIN7.out]
                         have hlen : (out.set a x5).length = l.length := by rw [List.length_set]; have := VB.out; omega
                         exact ⟨Q10.out.1.cw, SqAns.told rfl hlen Q10.out.1.go⟩
                       | false =>
                         have FIN7 := hid (FIN5.out.trans (if_neg (by rw [hq]; decide)))
                         clear hq
                         go_wp2_with fail
                         go_roundg (gk - 1)
                         case measure => have := HI.out; omega
                         case rel => exact ⟨i + 1, lf, out.set a x5, _, F10, by have := HI.out; omega, by rfl, by go_num, by have := HLF.out; omega, by rw [List.length_set]; have := VB.out; omega, Q10.out.1, ⟨m5 + 3, by omega, Q10.out.2⟩, FIN7.out.symm⟩
               · have d3 : decide ((i : Int) < (l.length : Int) - 1) = false := by simp; omega
                 have FIN1 := hid ((sq_last hil).symm.trans FINR.out)
                 have OK1 := hid OKR.out
                 obtain ⟨w7, hw7⟩ : ∃ q, q = wr := ⟨_, rfl⟩
                 subst hw7
                 go_upto_if 86 with fail
                 go_cut [12] from 85 to 88 (fun v W => v = .int .i64 (leftN l a left) ∧ w7 = W)
                 case first =>
                   rcases LF.out with ⟨h0, h1⟩ | ⟨h0, h1⟩
                   all_goals
                     have H1 := hid h1
                     clear h1
                     go_wp2_with fail
                     go_meet
                     exact ⟨by rw [H1.out], rfl⟩
                 case rest =>
                   obtain ⟨rfl, rfl⟩ := hcut
                   generalize hlf : leftN l a left = lf at *
                   clear hlf
                   go_wp2_with fail
                   refine (level_any b T H Sp Sp2 base (by omega) v (by have := VB.out; omega) s1 _ _ _ (by exact QR.out.cw.a) OK1.out (by omega)).mono ?_
                   rintro e w8 ⟨rfl, hm5⟩
                   obtain ⟨F8, hq5⟩ := QR.out.moved hm5
                   obtain ⟨m5, hm5b, hok5⟩ := H.okRun (levelA base v) 41 (ctx_level base (by omega) v) (most_level base v) s1 _ OK1.out
                   have Q8 := hid (And.intro hq5 hok5)
                   clear hm5 hq5 hok5
                   obtain ⟨x5, s5, hx5⟩ : ∃ x5 s5, M.run (levelA base v) s1 = (x5, s5) := ⟨_, _, rfl⟩
                   have hx51 : (M.run (levelA base v) s1).1 = x5 := by rw [hx5]
                   have hx52 : (M.run (levelA base v) s1).2 = s5 := by rw [hx5]
                   rw [hx51]
                   rw [hx52] at Q8
                   have X5 := hid hx5
                   clear hx5 hx51 hx52
                   have hout : (lvOut x5 = true ∧ (decide (x5 < -16320) = true ∨ (decide (x5 < -16320) = false ∧ decide (16320 < x5) = true))) ∨ (lvOut x5 = false ∧ decide (x5 < -16320) = false ∧ decide (16320 < x5) = false) := by
                     unfold lvOut
                     cases decide (x5 < -16320) <;> cases decide (16320 < x5) <;> simp
                   rcases hout with ⟨hlo, hdd⟩ | ⟨hlo, hd1, hd2⟩
                   · have HF := FIN1.out.symm.trans (lv_out (by rw [VB.out.2.2]; exact X5.out) hlo)
                     have FIN5 := hid HF
                     clear HF hlo
                     rcases hdd with hd1 | ⟨hd1, hd2⟩
                     all_goals
                       go_wp2_with fail
                       refine (in_any _ _ 3 [] _ _ (by exact rfl)).mono ?_
                       rintro e w9 ⟨ev, rfl, hev, hb6⟩
                       have Q9 := hid (And.intro (Q8.out.1.below H hb6) hev)
                       clear hev hb6
                       go_wp2_with fail
                       go_ret2
                       refine ⟨F8, ?_⟩
                       rw [SQ.out, FIN5.out]
                       exact ⟨Q9.out.1.cw, SqAns.bad rfl Q9.out.2⟩
                   · skip
                     obtain ⟨old, hold⟩ : ∃ old, out[a]? = some old := ⟨out[a]'(by have := VB.out; omega), List.getElem?_eq_getElem (by have := VB.out; omega)⟩
                     have hco := Q8.out.1.go.b.cell a
                     rw [List.getElem?_toArray, List.getElem?_map, hold] at hco
                     have hfo := Q8.out.1.go.b.frozen a
                     have QP := hid (Q8.out.1.put H a x5)
                     have HLO := hid hlo
                     clear hold hlo
                     simp only [Option.map_some, intV] at hco
                     have HF := FIN1.out.symm.trans (lv_last (by rw [VB.out.2.2]; exact X5.out) HLO.out hil)
                     have FIN5 := hid HF
                     clear HF
                     go_wp2_with fail
                     go_roundg (gk - 1)
                     case measure => have := HI.out; omega
                     case rel => exact ⟨i + 1, lf, out.set a x5, s5, F8, by have := HI.out; omega, by rfl, by go_num, by have := HLF.out; omega, by rw [List.length_set]; have := VB.out; omega, QP.out, ⟨m5, by omega, Q8.out.2⟩, FIN5.out.symm⟩
            -- ENDROUND
             · obtain rfl : i = l.length := by omega
               have d9 : decide ((l.length : Int) < (l.length : Int)) = false := by simp
               have hdr : ord.drop l.length = [] := by rw [← OL.out.1]; exact List.drop_length
               rw [hdr] at hfin
               have QE := hid (And.intro hsq (And.intro hol (SQ.out.trans hfin.symm)))
               clear hlt hik hfin hsq hol hok1 hdr hlf
               go_wp2_with fail
               go_ret2
               refine ⟨F1, ?_⟩
               rw [QE.out.2.2]
               exact ⟨QE.out.1.cw, SqAns.told rfl QE.out.2.1 QE.out.1.go⟩
end
end Go.Proofs.YtkkgpdejmcpcpaaGreatDoor

/- Two objects that share nothing, made by the call. -/
namespace Go.Proofs.YtkkgpdejmcpcpaaGreatDoor
open Go.RowKit

section
variable {σ τ : Type} {M : Mach σ} {N : Mach τ} {f1 f2 f3 f4 : FuncId} {m1 m2 : Value} {A1 : World → (Nat → Prop) → σ → Prop} {A2 : World → (Nat → Prop) → τ → Prop} {O1 : σ → Nat → Prop} {O2 : τ → Nat → Prop}

structure TwoAt (B : Nat) (w0 : World) (A1 : World → (Nat → Prop) → σ → Prop) (A2 : World → (Nat → Prop) → τ → Prop) (F G : Nat → Prop) (s : σ) (t : τ) (wr : World) : Prop where
  l : A1 wr F s
  r : A2 wr G t
  dis : ∀ k, F k → ¬ G k
  lB : ∀ k, F k → B ≤ k
  rB : ∀ k, G k → B ≤ k
  bel : Below B w0 wr
  size : B ≤ wr.heap.size
def Two (B : Nat) (w0 : World) (A1 : World → (Nat → Prop) → σ → Prop) (A2 : World → (Nat → Prop) → τ → Prop) (s : σ) (t : τ) (wr : World) : Prop := ∃ F G, TwoAt B w0 A1 A2 F G s t wr

variable {B : Nat} {w0 wr w' : World} {F G : Nat → Prop} {s s' : σ} {t t' : τ}
theorem TwoAt.left (H2 : IsCoder N f3 f4 m2 A2 O2) (T : TwoAt B w0 A1 A2 F G s t wr) (hm : Moved A1 wr F s' w') : Two B w0 A1 A2 s' t w' := by
  obtain ⟨F', a, o, f⟩ := hm
  refine ⟨F', G, a, H2.keep _ _ G F t T.r o (fun k hk hf => T.dis k hf hk), fun k hk hg => ?_, fun k hk => ?_, T.rB, T.bel.trans ?_, Nat.le_trans T.size o.size⟩
  · rcases f k hk with h | h
    · exact T.dis k h hg
    · have := H2.there _ _ _ _ T.r hg
      omega
  · have := T.size
    rcases f k hk with h | h
    · exact T.lB k h
    · omega
  · exact ⟨o.os, o.tape, o.output, o.size, fun k hk => o.block k (by have := T.size; omega) (fun h => by have := T.lB k h; omega)⟩
theorem TwoAt.right (H1 : IsCoder M f1 f2 m1 A1 O1) (T : TwoAt B w0 A1 A2 F G s t wr) (hm : Moved A2 wr G t' w') : Two B w0 A1 A2 s t' w' := by
  obtain ⟨G', a, o, f⟩ := hm
  refine ⟨F, G', H1.keep _ _ F G s T.l o (fun k hk hg => T.dis k hk hg), a, fun k hk hg => ?_, T.lB, fun k hk => ?_, T.bel.trans ?_, Nat.le_trans T.size o.size⟩
  · rcases f k hg with h | h
    · exact T.dis k hk h
    · have := H1.there _ _ _ _ T.l hk
      omega
  · have := T.size
    rcases f k hk with h | h
    · exact T.rB k h
    · omega
  · exact ⟨o.os, o.tape, o.output, o.size, fun k hk => o.block k (by have := T.size; omega) (fun h => by have := T.rB k h; omega)⟩
/-- Something else is made or read: both stay. -/
theorem TwoAt.keep {S : Nat → Prop} (H1 : IsCoder M f1 f2 m1 A1 O1) (H2 : IsCoder N f3 f4 m2 A2 O2) (T : TwoAt B w0 A1 A2 F G s t wr) (o : Only S wr w') (hF : ∀ k, F k → ¬ S k) (hG : ∀ k, G k → ¬ S k) (hB : ∀ k, k < B → ¬ S k) : TwoAt B w0 A1 A2 F G s t w' :=
  ⟨H1.keep _ _ _ _ _ T.l o hF, H2.keep _ _ _ _ _ T.r o hG, T.dis, T.lB, T.rB, T.bel.trans ⟨o.os, o.tape, o.output, o.size, fun k hk => o.block k (by have := T.size; omega) (hB k hk)⟩, Nat.le_trans T.size o.size⟩
theorem TwoAt.read (H1 : IsCoder M f1 f2 m1 A1 O1) (H2 : IsCoder N f3 f4 m2 A2 O2) (T : TwoAt B w0 A1 A2 F G s t wr) (o : Only (fun _ => False) wr w') : TwoAt B w0 A1 A2 F G s t w' :=
  T.keep H1 H2 o (fun _ _ h => h) (fun _ _ h => h) (fun _ _ h => h)
theorem TwoAt.below (H1 : IsCoder M f1 f2 m1 A1 O1) (H2 : IsCoder N f3 f4 m2 A2 O2) (T : TwoAt B w0 A1 A2 F G s t wr) (o : Below wr.heap.size wr w') : TwoAt B w0 A1 A2 F G s t w' :=
  T.read H1 H2 ⟨o.os, o.tape, o.output, o.size, fun k hk _ => o.block k hk⟩
end
end Go.Proofs.YtkkgpdejmcpcpaaGreatDoor

/- New coders; what they tell of themselves. -/
namespace Go.Proofs.YtkkgpdejmcpcpaaGreatDoor
open Go.RowKit
theorem pok_first : POk first64 := by
  have h : ∀ c, c < 64 → first64.getD c 0 = 1024 := by
    intro c hc
    rw [List.getD_eq_getElem?_getD, first64, List.getElem?_replicate, if_pos hc]
    rfl
  exact ⟨List.length_replicate, fun c hc => by rw [h c hc]; omega, fun c hc => by rw [h c hc]; omega⟩
theorem ok_wr_new : Wr.new.Ok 0 := ⟨pok_first, ⟨by decide, by decide, by decide, by decide⟩⟩
theorem ok_rd_new (bs : List UInt8) : (Rd.new bs).Ok 4 := ⟨pok_first, ⟨by show 16777216 ≤ 4294967295; omega, by show 4294967295 ≤ 4294967295; omega, by have := pre_lt bs 4 (by omega); show pre bs 4 ≤ 4294967295; omega, by show 4 ≤ 4; omega⟩⟩
theorem at_over (b : Nat) (w : World) (F : Nat → Prop) (s : Rd) (h : AtRd b w F s) (hp : s.P.length = 64) (hat : s.d.at_ ≤ 1000000000) :
    Calls Tryz.prog 20 #[.pointer (some ⟨b, 0, none⟩)] w fun e w' => e = .returned (.int .i64 (s.d.at_ - s.d.bs.length : Nat)) ∧ ∃ m, w' = w.drewN m := by
  obtain ⟨db, g, cap, h1, _⟩ := h
  exact rd_over b db g cap s w h1 hp hat
def NewAt {σ : Type} (At : Nat → World → (Nat → Prop) → σ → Prop) (w : World) (s : σ) (e : Ending) (w' : World) : Prop :=
  ∃ b F, e = .returned (.pointer (some ⟨b, 0, none⟩)) ∧ At b w' F s ∧ (∀ k, F k → w.heap.size ≤ k) ∧ Below w.heap.size w w'
theorem new_wr (w : World) : Calls Tryz.prog 6 #[] w (NewAt AtWr w Wr.new) :=
  (new_writer w).mono fun _ _ ⟨b, eb, v, h1, h2, h3, h4⟩ => ⟨b, _, h1, ⟨eb, v, h2, rfl⟩, h3, h4⟩
theorem new_rd (x : Value) (bs : List UInt8) (w : World) (hx : From w 1 x bs.length (bs.map byteV)) (hl : bs.length ≤ 140737488355328) : Calls Tryz.prog 18 #[x] w (NewAt AtRd w (Rd.new bs)) :=
  (new_reader x bs w hx hl).mono fun _ _ ⟨b, db, g, cap, h1, h2, h3, h4, h5, h6⟩ => ⟨b, _, h1, ⟨db, g, cap, h2, rfl⟩, fun k hk => by rcases hk with rfl | rfl | rfl <;> assumption, h6⟩
def NewAt2 {σ : Type} (At : Nat → Nat → World → (Nat → Prop) → σ → Prop) (w : World) (s : σ) (e : Ending) (w' : World) : Prop :=
  ∃ b eb F, e = .returned (.pointer (some ⟨b, 0, none⟩)) ∧ At b eb w' F s ∧ (∀ k, F k → w.heap.size ≤ k) ∧ Below w.heap.size w w'
theorem new_xw (w : World) : Calls Tryz.prog 8 #[] w (NewAt2 AtXw w XWr.new) :=
  (xnew_writer w).mono fun _ _ ⟨b, eb, v, h1, h2, h3, h4⟩ => ⟨b, eb, _, h1, ⟨v, h2, rfl⟩, h3, h4⟩
theorem new_xr (x : Value) (bs : List UInt8) (w : World) (hx : From w 1 x bs.length (bs.map byteV)) (hl : bs.length ≤ 1000000000) : Calls Tryz.prog 19 #[x] w (NewAt2 AtXr w (XRd.new bs)) :=
  (xnew_reader x bs w hx hl).mono fun _ _ ⟨b, db, g, cap, h1, h2, h3, h4, h5, h6⟩ => ⟨b, db, _, h1, ⟨g, cap, h2, rfl⟩, fun k hk => by rcases hk with rfl | rfl | rfl <;> assumption, h6⟩
theorem xr_over (b db : Nat) (w : World) (F : Nat → Prop) (s : XRd) (h : AtXr b db w F s) (hat : s.d.at_ ≤ 1000000000) :
    Calls Tryz.prog 21 #[.pointer (some ⟨db, 0, none⟩)] w fun e w' => e = .returned (.int .i64 (s.d.at_ - s.d.bs.length : Nat)) ∧ ∃ m, w' = w.drewN m := by
  obtain ⟨g, cap, h1, _⟩ := h
  exact rdec_over db g cap s.d w h1.dec hat
theorem xr_D {b db : Nat} {w : World} {F : Nat → Prop} {s : XRd} (h : AtXr b db w F s) : w.cell? ⟨b, 2, none⟩ = some (.pointer (some ⟨db, 0, none⟩)) := by
  obtain ⟨g, cap, h1, _⟩ := h
  rw [h1.blk.cell, cod_2]
theorem xw_E {b eb : Nat} {w : World} {F : Nat → Prop} {s : XWr} (h : AtXw b eb w F s) : w.cell? ⟨b, 1, none⟩ = some (.pointer (some ⟨eb, 0, none⟩)) := by
  obtain ⟨v, h1, _⟩ := h
  rw [h1.blk.cell, cod_1]
theorem below_of_moved {σ : Type} {At : World → (Nat → Prop) → σ → Prop} {B : Nat} {w w' : World} {F : Nat → Prop} {s : σ} (h : Moved At w F s w') (hB : B ≤ w.heap.size) (hF : ∀ k, F k → B ≤ k) : Below B w w' := by
  obtain ⟨F', _, o, _⟩ := h
  exact below_mono_only o hB (fun k hk hf => by have := hF k hf; omega)
theorem wr_endA (b : Nat) (w : World) (F : Nat → Prop) (s : Wr) (n : Nat) (h : AtWr b w F s) (ho : s.Ok n) (hn : n ≤ 1000000000) :
    Calls Tryz.prog 16 #[.pointer (some ⟨b, 0, none⟩)] w fun y w' => ∃ g cap, y = .returned (.slice (some ⟨g, 0, none⟩) s.e.bytes.length cap) ∧ w'.ownsRow w.heap.size 5 1 (.slice (some ⟨g, 0, none⟩) s.e.bytes.length cap) s.e.bytes.length (s.e.bytes.map byteV) ∧ Below w.heap.size w w' := by
  obtain ⟨eb, v, h1, _⟩ := h
  exact wr_end b eb v s w h1 ho.P.len (by have := ho.e.len; omega) ho.e.low
end Go.Proofs.YtkkgpdejmcpcpaaGreatDoor

/- kinlaw14.first; coef.Code at a writer, at a reader, where it refuses. -/
namespace Go.Proofs.YtkkgpdejmcpcpaaGreatDoor
open Go.RowKit

set_option maxRecDepth 100000 in
theorem code_bad (T : TypeId) (p x : Value) (l : List Int) (w : World) (hx : Nums w x l) (hl : l.length ≤ 1000000000) (hc : checkNo l ≠ 0) :
    Calls Tryz.prog 59 #[.iface T p, x] w fun e w' => e = .returned (.tuple #[.slice none 0 0, codeV (checkNo l)]) ∧ w' = w := by
  have H := hid (check_any x l w hx hl)
  obtain ⟨A, c, rfl, _⟩ := hx.form
  have hv : codeV (checkNo l) = .iface 43 (.int .i64 (checkNo l)) := by unfold codeV; rw [if_neg hc]
  rw [hv] at H ⊢
  clear hx hl hc hv
  generalize checkNo l = cn at *
  go_enter Tryz.func59, Tryz.ntmps59
  go_wp2_with fail
  refine H.out.mono ?_
  rintro e w2 ⟨rfl, rfl⟩
  go_wp2_with fail
  go_ret2
  exact ⟨rfl, rfl⟩
set_option maxRecDepth 100000 in
theorem base5 (w : World) : Calls Tryz.prog 81 #[.int .i64 5] w fun e w' => e = .returned (.int .i64 0) ∧ w' = w := by
  go_enter Tryz.func81, Tryz.ntmps81
  go_wp2_with fail
  go_ret
  exact ⟨rfl, rfl⟩
/-- The two sizes. -/
def Sized (l : List Int) (sd base : Nat) : Prop := (sd = 4 ∧ base = 14 ∧ l.length = 16) ∨ (sd = 8 ∧ base = 39 ∧ l.length = 64)
theorem wcode (b sd base : Nat) (x : Value) (l : List Int) (hsd : Sized l sd base) (hin : l.any lvOut = false) (s : Wr) (w : World) (F : Nat → Prop) (lim : Nat) (hs : AtWr b w F s) (ho : s.Ok lim) (hl : lim + 10000 ≤ 1000000000) (hx : NOff x l w F) :
    Calls Tryz.prog 59 #[.iface 25 (.pointer (some ⟨b, 0, none⟩)), x] w (CodeRes wrM (AtWr b) w F (squareA base (ordOf sd) l) s) :=
  code_any b _ (wr_coder b) (wr_speaks b) (wr_speaks2 b) sd base x l hsd hin s w F lim hs ho hl hx
theorem rcode (b sd base : Nat) (x : Value) (l : List Int) (hsd : Sized l sd base) (hin : l.any lvOut = false) (s : Rd) (w : World) (F : Nat → Prop) (lim : Nat) (hs : AtRd b w F s) (ho : s.Ok lim) (hl : lim + 10000 ≤ 1000000000) (hx : NOff x l w F) :
    Calls Tryz.prog 59 #[.iface 61 (.pointer (some ⟨b, 0, none⟩)), x] w (CodeRes rdM (AtRd b) w F (squareA base (ordOf sd) l) s) :=
  code_any b _ (rd_coder b) (rd_speaks b) (rd_speaks2 b) sd base x l hsd hin s w F lim hs ho hl hx
theorem CodeRes.moved {σ : Type} {M : Mach σ} {At : World → (Nat → Prop) → σ → Prop} {w w' : World} {F : Nat → Prop} {p : Ask SqR} {s : σ} {e : Ending} (h : CodeRes M At w F p s e w') : Moved At w F (M.run p s).2 w' ∧ ∃ F', SqAns w (M.run p s).1 F' e w' := by
  obtain ⟨F', h1, h2⟩ := h
  exact ⟨⟨F', h1.a, h1.o, h1.f⟩, F', h2⟩
theorem noff_new {W : World} {F : Nat → Prop} {g n : Nat} {l : List Int} {cs : Array Value} (h : Blk W g 3 cs) (hc : cs = (l.map intV).toArray) (hn : l.length = n) (hF : ¬ F g) : NOff (.slice (some ⟨g, 0, none⟩) n n) l W F := by
  subst hn
  refine ⟨⟨_, _, rfl, Nat.le_refl _, fun _ => ⟨g, 0, rfl, h.lt, fun i v hv => ?_⟩⟩, fun k hk hFk => ?_, fun k hk => ?_⟩
  · rw [Nat.zero_add, h.cell, hc]
    simp [hv, intV]
  · have e : g = k := by simpa [Value.ownBlock] using hk
    exact hF (by rw [e]; exact hFk)
  · have e : g = k := by simpa [Value.ownBlock] using hk
    rw [← e]
    exact h.lt
def fr14 : SqR × Rd := rdM.run (squareA 39 (ordOf 8) (zerosL 64)) (Rd.new [])
theorem fr14_none : fr14.1.1 = none ∧ fr14.1.2.length = 64 := by decide +kernel
def fw14 : Wr := (wrM.bit Wr.new 14 false).2
theorem fw14_run : wrM.run (squareA 14 (ordOf 4) (zerosL 16)) Wr.new = ((none, zerosL 16), fw14) := run_zeros wrM echo_wr 14 (ordOf 4) 16 Wr.new
theorem fw14_bytes : fw14.e.bytes = [] := by decide +kernel
theorem fw14_ok : fw14.Ok 3 := (wr_coder 0).okBit Wr.new 14 false 0 ok_wr_new
end Go.Proofs.YtkkgpdejmcpcpaaGreatDoor

