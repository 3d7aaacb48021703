/- Part: at whatever coder. -/
import Derived.Test.YtgdhbmpdicdbpaaNums
namespace Go.Proofs.Ytgdhbmpdicdbpaa
open Go.RowKit
section
variable {σ : Type} {M : Mach σ} {fB fF : FuncId} {At : World → (Nat → Prop) → σ → Prop} {Ok : σ → Nat → Prop}

def partCtx (n : Nat) : Nat := 7 + min n 6
theorem partCtx_lt (n : Nat) : partCtx n < 64 := by unfold partCtx; omega
theorem part_def (M : Mach σ) (v : Int) (s : σ) : M.part v s =
    (if (M.bit s 6 (decide (cut v (-15) 15 ≠ 0))).1 then
      (if (M.flat (M.bit s 6 (decide (cut v (-15) 15 ≠ 0))).2 (decide (cut v (-15) 15 < 0))).1 then -((M.ones partCtx (max (cut v (-15) 15) (-(cut v (-15) 15)) - 1) 14 0 (M.flat (M.bit s 6 (decide (cut v (-15) 15 ≠ 0))).2 (decide (cut v (-15) 15 < 0))).2).1 : Int) - 1
        else ((M.ones partCtx (max (cut v (-15) 15) (-(cut v (-15) 15)) - 1) 14 0 (M.flat (M.bit s 6 (decide (cut v (-15) 15 ≠ 0))).2 (decide (cut v (-15) 15 < 0))).2).1 : Int) + 1,
        (M.ones partCtx (max (cut v (-15) 15) (-(cut v (-15) 15)) - 1) 14 0 (M.flat (M.bit s 6 (decide (cut v (-15) 15 ≠ 0))).2 (decide (cut v (-15) 15 < 0))).2).2)
      else (0, (M.bit s 6 (decide (cut v (-15) 15 ≠ 0))).2)) := rfl

set_option maxRecDepth 100000 in
set_option maxHeartbeats 800000 in
theorem part_any (b : Nat) (T : TypeId) (H : IsCoder M fB fF (.pointer (some ⟨b, 0, none⟩)) At Ok) (Sp : Speaks T (.pointer (some ⟨b, 0, none⟩)) fB fF) (v : Int) (s : σ) (w : World) (F : Nat → Prop) (lim : Nat) (hs : At w F s) (ho : Ok s lim) (hl : lim + 100 ≤ 1000000000) :
    Calls Try.prog 27 #[.iface T (.pointer (some ⟨b, 0, none⟩)), .int .i64 v] w (Coded At w F (M.part v s)) := by
  have hc := cut_15 v
  have hpd := part_def M v s
  have S := hid (And.intro hs ho)
  have hm := Sp.bit
  have hcb := Sp.callBit
  have hm2 := Sp.flat
  have hcb2 := Sp.callFlat
  have PD := hid hpd
  clear hs ho hpd
  go_enter Try.func27, Try.ntmps27
  go_wp2_with (go_at_call 45; refine (bound_any v (-15) 15 _).mono ?_; rintro e w' ⟨rfl, rfl⟩)
  generalize cut v (-15) 15 = vv at *
  have e1 : (vv != 0) = decide (vv ≠ 0) := by cases h : decide (vv ≠ 0) <;> simp_all
  have E1 := hid e1
  clear e1
  refine (H.bitN _ F s 6 _ rfl (by omega) _ lim S.out.1 S.out.2 (by omega)).mono ?_
  rintro e w1 ⟨rfl, ⟨F1, a1, o1, f1⟩, ok1⟩
  rw [E1.out] at *
  have Y := hid (And.intro a1 (And.intro o1 (And.intro f1 ok1)))
  clear a1 o1 f1 ok1
  cases hq : (M.bit s 6 (decide (vv ≠ 0))).1 with
  | false =>
    have Q := hid hq
    clear hq
    go_wp2_with fail
    go_ret
    rw [PD.out, Q.out]
    simp only [Bool.false_eq_true, if_false]
    exact ⟨rfl, F1, Y.out.1, Y.out.2.1, Y.out.2.2.1⟩
  | true =>
    have Q := hid hq
    clear hq
    generalize hs1 : (M.bit s 6 (decide (vv ≠ 0))).2 = s1 at *
    have HS1 := hid hs1
    clear hs1
    go_wp2_with fail
    refine (H.flatN _ F1 s1 _ _ Y.out.1 Y.out.2.2.2 (by omega)).mono ?_
    rintro e w2 ⟨rfl, h2, ok2⟩
    obtain ⟨F2, a2, o2, f2⟩ := Moved.step Y.out.2.1 Y.out.2.2.1 h2
    have Z := hid (And.intro a2 (And.intro o2 (And.intro f2 ok2)))
    clear a2 o2 f2 ok2 h2
    generalize hdn : (M.flat s1 (decide (vv < 0))).1 = dn at *
    have DN := hid hdn
    clear hdn
    generalize hs2 : (M.flat s1 (decide (vv < 0))).2 = s2 at *
    have HS2 := hid hs2
    clear hs2
    have hmx : 0 ≤ max vv (-vv) ∧ max vv (-vv) ≤ 15 := by omega
    go_wp2_with fail
    generalize hkk : max vv (-vv) - 1 = kk at *
    have KK := hid hkk
    clear hkk hmx
    go_loopg [7] 14 (fun j i wr => OnesRel M At Ok partCtx kk 14 (lim + 6) (M.ones partCtx kk 14 0 s2) w F j i wr)
    case atStart => exact ⟨0, s2, rfl, rfl, ⟨F2, Z.out.1, Z.out.2.1, Z.out.2.2.1⟩, Z.out.2.2.2, rfl⟩
    case round =>
      obtain ⟨n, s', hn, rfl, hmv, ho, hfin⟩ := hrel
      have X := hid (And.intro hmv (And.intro ho hfin))
      clear hmv ho hfin
      by_cases h3 : n < 14
      · obtain ⟨j, rfl⟩ : ∃ j, gk = j + 1 := ⟨gk - 1, by omega⟩
        obtain ⟨F3, a3, o3, f3⟩ := X.out.1
        have Y3 := hid (And.intro a3 (And.intro o3 f3))
        clear a3 o3 f3
        go_wp2_with fail
        refine (H.bitN _ F3 s' (partCtx n) _ (by unfold partCtx; omega) (partCtx_lt n) _ _ Y3.out.1 X.out.2.1 (by omega)).mono ?_
        rintro e w3 ⟨rfl, h3, ok3⟩
        have Z3 := hid (And.intro (Moved.step Y3.out.2.1 Y3.out.2.2 h3) ok3)
        clear h3 hm hcb hm2 hcb2 ok3
        cases hq3 : (M.bit s' (partCtx n) (decide ((n : Int) < kk))).1 with
        | true =>
          have Q3 := hid hq3
          clear hq3
          go_wp2_with fail
          obtain ⟨z1, z2⟩ := Z3.out
          go_roundg j
          case measure => omega
          case rel => exact ⟨n + 1, _, by omega, by go_num, z1, by rw [show lim + 6 + 3 * (n + 1) = lim + 6 + 3 * n + 3 by omega]; exact z2, by rw [← X.out.2.2, ones_yes (f := partCtx) Q3.out]⟩
        | false =>
          have Q3 := hid hq3
          clear hq3
          have e : M.ones partCtx kk 14 0 s2 = (n, (M.bit s' (partCtx n) (decide ((n : Int) < kk))).2) := by
            rw [← X.out.2.2, ones_no (f := partCtx) Q3.out]
          have EE := hid e
          clear e
          cases dn with
          | true =>
            go_wp2_with fail
            go_ret
            rw [PD.out, Q.out, EE.out]
            simp only [if_true]
            exact ⟨rfl, Z3.out.1⟩
          | false =>
            go_wp2_with fail
            go_ret
            rw [PD.out, Q.out, EE.out]
            simp only [if_true, Bool.false_eq_true, if_false]
            exact ⟨rfl, Z3.out.1⟩
      · obtain rfl : n = 14 := by omega
        obtain rfl : gk = 0 := by omega
        have e : M.ones partCtx kk 14 0 s2 = (14, s') := by
          rw [← X.out.2.2]; rfl
        have EE := hid e
        clear e
        cases dn with
        | true =>
          go_wp2_with fail
          go_ret
          rw [PD.out, Q.out, EE.out]
          simp only [if_true]
          exact ⟨rfl, X.out.1⟩
        | false =>
          go_wp2_with fail
          go_ret
          rw [PD.out, Q.out, EE.out]
          simp only [if_true, Bool.false_eq_true, if_false]
          exact ⟨rfl, X.out.1⟩

set_option maxRecDepth 100000 in
set_option maxHeartbeats 800000 in
theorem rpart_any (b : Nat) (H : IsCoder M 32 33 (.pointer (some ⟨b, 0, none⟩)) At Ok) (v : Int) (s : σ) (w : World) (F : Nat → Prop) (lim : Nat) (hs : At w F s) (ho : Ok s lim) (hl : lim + 100 ≤ 1000000000) :
    Calls Try.prog 36 #[.pointer (some ⟨b, 0, none⟩), .int .i64 v] w (Coded At w F (M.part v s)) := by
  have hc := cut_15 v
  have hpd := part_def M v s
  have S := hid (And.intro hs ho)
  have PD := hid hpd
  clear hs ho hpd
  go_enter Try.func36, Try.ntmps36
  have hcut : min (max v (-15)) 15 = cut v (-15) 15 := rfl
  go_wp2_with fail
  clear hcut
  generalize cut v (-15) 15 = vv at *
  have e1 : (vv != 0) = decide (vv ≠ 0) := by cases h : decide (vv ≠ 0) <;> simp_all
  have E1 := hid e1
  clear e1
  refine (H.bitN _ F s 6 _ rfl (by omega) _ lim S.out.1 S.out.2 (by omega)).mono ?_
  rintro e w1 ⟨rfl, ⟨F1, a1, o1, f1⟩, ok1⟩
  rw [E1.out] at *
  have Y := hid (And.intro a1 (And.intro o1 (And.intro f1 ok1)))
  clear a1 o1 f1 ok1
  cases hq : (M.bit s 6 (decide (vv ≠ 0))).1 with
  | false =>
    have Q := hid hq
    clear hq
    go_wp2_with fail
    go_ret
    rw [PD.out, Q.out]
    simp only [Bool.false_eq_true, if_false]
    exact ⟨rfl, F1, Y.out.1, Y.out.2.1, Y.out.2.2.1⟩
  | true =>
    have Q := hid hq
    clear hq
    generalize hs1 : (M.bit s 6 (decide (vv ≠ 0))).2 = s1 at *
    have HS1 := hid hs1
    clear hs1
    go_wp2_with fail
    refine (H.flatN _ F1 s1 _ _ Y.out.1 Y.out.2.2.2 (by omega)).mono ?_
    rintro e w2 ⟨rfl, h2, ok2⟩
    obtain ⟨F2, a2, o2, f2⟩ := Moved.step Y.out.2.1 Y.out.2.2.1 h2
    have Z := hid (And.intro a2 (And.intro o2 (And.intro f2 ok2)))
    clear a2 o2 f2 ok2 h2
    generalize hdn : (M.flat s1 (decide (vv < 0))).1 = dn at *
    have DN := hid hdn
    clear hdn
    generalize hs2 : (M.flat s1 (decide (vv < 0))).2 = s2 at *
    have HS2 := hid hs2
    clear hs2
    have hmx : 0 ≤ max vv (-vv) ∧ max vv (-vv) ≤ 15 := by omega
    go_wp2_with fail
    generalize hkk : max vv (-vv) - 1 = kk at *
    have KK := hid hkk
    clear hkk hmx
    go_loopg [7] 14 (fun j i wr => OnesRel M At Ok partCtx kk 14 (lim + 6) (M.ones partCtx kk 14 0 s2) w F j i wr)
    case atStart => exact ⟨0, s2, rfl, rfl, ⟨F2, Z.out.1, Z.out.2.1, Z.out.2.2.1⟩, Z.out.2.2.2, rfl⟩
    case round =>
      obtain ⟨n, s', hn, rfl, hmv, ho, hfin⟩ := hrel
      have X := hid (And.intro hmv (And.intro ho hfin))
      clear hmv ho hfin
      by_cases h3 : n < 14
      · obtain ⟨j, rfl⟩ : ∃ j, gk = j + 1 := ⟨gk - 1, by omega⟩
        obtain ⟨F3, a3, o3, f3⟩ := X.out.1
        have Y3 := hid (And.intro a3 (And.intro o3 f3))
        clear a3 o3 f3
        go_wp2_with fail
        refine (H.bitN _ F3 s' (partCtx n) _ (by unfold partCtx; omega) (partCtx_lt n) _ _ Y3.out.1 X.out.2.1 (by omega)).mono ?_
        rintro e w3 ⟨rfl, h3, ok3⟩
        have Z3 := hid (And.intro (Moved.step Y3.out.2.1 Y3.out.2.2 h3) ok3)
        clear h3 ok3
        cases hq3 : (M.bit s' (partCtx n) (decide ((n : Int) < kk))).1 with
        | true =>
          have Q3 := hid hq3
          clear hq3
          go_wp2_with fail
          obtain ⟨z1, z2⟩ := Z3.out
          go_roundg j
          case measure => omega
          case rel => exact ⟨n + 1, _, by omega, by go_num, z1, by rw [show lim + 6 + 3 * (n + 1) = lim + 6 + 3 * n + 3 by omega]; exact z2, by rw [← X.out.2.2, ones_yes (f := partCtx) Q3.out]⟩
        | false =>
          have Q3 := hid hq3
          clear hq3
          have e : M.ones partCtx kk 14 0 s2 = (n, (M.bit s' (partCtx n) (decide ((n : Int) < kk))).2) := by
            rw [← X.out.2.2, ones_no (f := partCtx) Q3.out]
          have EE := hid e
          clear e
          cases dn with
          | true =>
            go_wp2_with fail
            go_ret
            rw [PD.out, Q.out, EE.out]
            simp only [if_true]
            exact ⟨rfl, Z3.out.1⟩
          | false =>
            go_wp2_with fail
            go_ret
            rw [PD.out, Q.out, EE.out]
            simp only [if_true, Bool.false_eq_true, if_false]
            exact ⟨rfl, Z3.out.1⟩
      · obtain rfl : n = 14 := by omega
        obtain rfl : gk = 0 := by omega
        have e : M.ones partCtx kk 14 0 s2 = (14, s') := by
          rw [← X.out.2.2]; rfl
        have EE := hid e
        clear e
        cases dn with
        | true =>
          go_wp2_with fail
          go_ret
          rw [PD.out, Q.out, EE.out]
          simp only [if_true]
          exact ⟨rfl, X.out.1⟩
        | false =>
          go_wp2_with fail
          go_ret
          rw [PD.out, Q.out, EE.out]
          simp only [if_true, Bool.false_eq_true, if_false]
          exact ⟨rfl, X.out.1⟩
end
end Go.Proofs.Ytgdhbmpdicdbpaa
