/- Kind, Mode, Part: at whatever coder. -/
import Derived.Test.YtgdhbmpdicdbpaaCoder
namespace Go.Proofs.Ytgdhbmpdicdbpaa
open Go.RowKit

section
variable {σ : Type} {M : Mach σ} {fB fF : FuncId} {At : World → (Nat → Prop) → σ → Prop} {Ok : σ → Nat → Prop}

/-- A number coded: the ending, and the object. -/
def Coded (At : World → (Nat → Prop) → σ → Prop) (w : World) (F : Nat → Prop) (x : Int × σ) (e : Ending) (w' : World) : Prop := e = .returned (.int .i64 x.1) ∧ Moved At w F x.2 w'
def OnesRel (M : Mach σ) (At : World → (Nat → Prop) → σ → Prop) (Ok : σ → Nat → Prop) (f : Nat → Nat) (kk : Int) (top lim : Nat) (fin : Nat × σ) (w0 : World) (F : Nat → Prop) (j : Nat) (i : Value) (wr : World) : Prop :=
  ∃ (n : Nat) (s' : σ), n + j = top ∧ i = .int .i64 n ∧ Moved At w0 F s' wr ∧ Ok s' (lim + 3 * n) ∧ M.ones f kk j n s' = fin

theorem ones_yes {f : Nat → Nat} {kk : Int} {j n : Nat} {s : σ} (h : (M.bit s (f n) (decide ((n : Int) < kk))).1 = true) : M.ones f kk (j + 1) n s = M.ones f kk j (n + 1) (M.bit s (f n) (decide ((n : Int) < kk))).2 := by
  rw [Mach.ones, if_pos h]
theorem ones_no {f : Nat → Nat} {kk : Int} {j n : Nat} {s : σ} (h : (M.bit s (f n) (decide ((n : Int) < kk))).1 = false) : M.ones f kk (j + 1) n s = (n, (M.bit s (f n) (decide ((n : Int) < kk))).2) := by
  rw [Mach.ones, if_neg (by rw [h]; decide)]

set_option maxRecDepth 100000 in
set_option maxHeartbeats 400000 in
theorem kind_any (b : Nat) (T : TypeId) (H : IsCoder M fB fF (.pointer (some ⟨b, 0, none⟩)) At Ok) (Sp : Speaks T (.pointer (some ⟨b, 0, none⟩)) fB fF) (k : Int) (s : σ) (w : World) (F : Nat → Prop) (lim : Nat) (hs : At w F s) (ho : Ok s lim) (hl : lim + 100 ≤ 1000000000) :
    Calls Try.prog 25 #[.iface T (.pointer (some ⟨b, 0, none⟩)), .int .i64 k] w (Coded At w F (M.kind (cut k 0 3) s)) := by
  have S := hid (And.intro hs ho)
  have hm := Sp.bit
  have hcb := Sp.callBit
  clear hs ho
  go_enter Try.func25, Try.ntmps25
  go_wp2_with (go_at_call 45; refine (bound_any k 0 3 _).mono ?_; rintro e w' ⟨rfl, rfl⟩)
  generalize cut k 0 3 = kk at *
  go_loopg [5] 3 (fun j i wr => OnesRel M At Ok (fun n => n) kk 3 lim (M.ones (fun n => n) kk 3 0 s) w F j i wr)
  case atStart => exact ⟨0, s, rfl, rfl, Moved.refl S.out.1, S.out.2, rfl⟩
  case round =>
    obtain ⟨n, s', hn, rfl, hmv, ho, hfin⟩ := hrel
    have X := hid (And.intro hmv (And.intro ho hfin))
    clear hmv ho hfin
    by_cases h3 : n < 3
    · obtain ⟨j, rfl⟩ : ∃ j, gk = j + 1 := ⟨gk - 1, by omega⟩
      have hd : decide ((n : Int) < kk) = true ∨ decide ((n : Int) < kk) = false := by cases decide ((n : Int) < kk) <;> simp
      obtain ⟨F1, a1, o1, f1⟩ := X.out.1
      have Y := hid (And.intro a1 (And.intro o1 f1))
      clear a1 o1 f1
      go_wp2_with fail
      refine (H.bitN _ F1 s' n (n : Int) rfl (by omega) _ (lim + 3 * n) Y.out.1 X.out.2.1 (by omega)).mono ?_
      rintro e w1 ⟨rfl, h1, ok2⟩
      have Z := hid (And.intro (Moved.step Y.out.2.1 Y.out.2.2 h1) ok2)
      clear h1 hm hcb ok2 hd
      cases hq : (M.bit s' n (decide ((n : Int) < kk))).1 with
      | true =>
        have Q := hid hq
        clear hq
        go_wp2_with fail
        obtain ⟨z1, z2⟩ := Z.out
        go_roundg j
        case measure => omega
        case rel => exact ⟨n + 1, _, by omega, by go_num, z1, by rw [show lim + 3 * (n + 1) = lim + 3 * n + 3 by omega]; exact z2, by rw [← X.out.2.2, ones_yes (f := fun n => n) Q.out]⟩
      | false =>
        have Q := hid hq
        clear hq
        go_wp2_with fail
        go_ret
        obtain ⟨z1, z2⟩ := Z.out
        have e : M.kind kk s = ((n : Int), (M.bit s' n (decide ((n : Int) < kk))).2) := by
          unfold Mach.kind
          rw [← X.out.2.2, ones_no (f := fun n => n) Q.out]
        rw [e]
        exact ⟨rfl, z1⟩
    · obtain rfl : n = 3 := by omega
      obtain rfl : gk = 0 := by omega
      go_wp2_with fail
      go_ret
      have e : M.kind kk s = ((3 : Int), s') := by
        unfold Mach.kind
        rw [← X.out.2.2]
        rfl
      rw [e]
      exact ⟨rfl, X.out.1⟩

set_option maxRecDepth 100000 in
set_option maxHeartbeats 400000 in
theorem rkind_any (b : Nat) (H : IsCoder M 32 33 (.pointer (some ⟨b, 0, none⟩)) At Ok) (k : Int) (s : σ) (w : World) (F : Nat → Prop) (lim : Nat) (hs : At w F s) (ho : Ok s lim) (hl : lim + 100 ≤ 1000000000) :
    Calls Try.prog 34 #[.pointer (some ⟨b, 0, none⟩), .int .i64 k] w (Coded At w F (M.kind k s)) := by
  have S := hid (And.intro hs ho)
  clear hs ho
  go_enter Try.func34, Try.ntmps34
  go_wp2_with fail
  generalize k = kk at *
  go_loopg [5] 3 (fun j i wr => OnesRel M At Ok (fun n => n) kk 3 lim (M.ones (fun n => n) kk 3 0 s) w F j i wr)
  case atStart => exact ⟨0, s, rfl, rfl, Moved.refl S.out.1, S.out.2, rfl⟩
  case round =>
    obtain ⟨n, s', hn, rfl, hmv, ho, hfin⟩ := hrel
    have X := hid (And.intro hmv (And.intro ho hfin))
    clear hmv ho hfin
    by_cases h3 : n < 3
    · obtain ⟨j, rfl⟩ : ∃ j, gk = j + 1 := ⟨gk - 1, by omega⟩
      have hd : decide ((n : Int) < kk) = true ∨ decide ((n : Int) < kk) = false := by cases decide ((n : Int) < kk) <;> simp
      obtain ⟨F1, a1, o1, f1⟩ := X.out.1
      have Y := hid (And.intro a1 (And.intro o1 f1))
      clear a1 o1 f1
      go_wp2_with fail
      refine (H.bitN _ F1 s' n (n : Int) rfl (by omega) _ (lim + 3 * n) Y.out.1 X.out.2.1 (by omega)).mono ?_
      rintro e w1 ⟨rfl, h1, ok2⟩
      have Z := hid (And.intro (Moved.step Y.out.2.1 Y.out.2.2 h1) ok2)
      clear h1 ok2 hd
      cases hq : (M.bit s' n (decide ((n : Int) < kk))).1 with
      | true =>
        have Q := hid hq
        clear hq
        go_wp2_with fail
        obtain ⟨z1, z2⟩ := Z.out
        go_roundg j
        case measure => omega
        case rel => exact ⟨n + 1, _, by omega, by go_num, z1, by rw [show lim + 3 * (n + 1) = lim + 3 * n + 3 by omega]; exact z2, by rw [← X.out.2.2, ones_yes (f := fun n => n) Q.out]⟩
      | false =>
        have Q := hid hq
        clear hq
        go_wp2_with fail
        go_ret
        obtain ⟨z1, z2⟩ := Z.out
        have e : M.kind kk s = ((n : Int), (M.bit s' n (decide ((n : Int) < kk))).2) := by
          unfold Mach.kind
          rw [← X.out.2.2, ones_no (f := fun n => n) Q.out]
        rw [e]
        exact ⟨rfl, z1⟩
    · obtain rfl : n = 3 := by omega
      obtain rfl : gk = 0 := by omega
      go_wp2_with fail
      go_ret
      have e : M.kind kk s = ((3 : Int), s') := by
        unfold Mach.kind
        rw [← X.out.2.2]
        rfl
      rw [e]
      exact ⟨rfl, X.out.1⟩

theorem cut_03 (m : Int) : 0 ≤ cut m 0 3 ∧ cut m 0 3 ≤ 3 := by unfold cut; omega
theorem cut_15 (m : Int) : -15 ≤ cut m (-15) 15 ∧ cut m (-15) 15 ≤ 15 := by unfold cut; omega

set_option maxRecDepth 100000 in
set_option maxHeartbeats 400000 in
theorem mode_any (b : Nat) (T : TypeId) (H : IsCoder M fB fF (.pointer (some ⟨b, 0, none⟩)) At Ok) (Sp : Speaks T (.pointer (some ⟨b, 0, none⟩)) fB fF) (m : Int) (s : σ) (w : World) (F : Nat → Prop) (lim : Nat) (hs : At w F s) (ho : Ok s lim) (hl : lim + 100 ≤ 1000000000) :
    Calls Try.prog 26 #[.iface T (.pointer (some ⟨b, 0, none⟩)), .int .i64 m] w (Coded At w F (M.mode m s)) := by
  have hc := cut_03 m
  have hmo : M.mode m s = ((if (M.bit s 3 (decide (1 < cut m 0 3))).1 then 2 else 0) + (if (M.bit (M.bit s 3 (decide (1 < cut m 0 3))).2 (if (M.bit s 3 (decide (1 < cut m 0 3))).1 then 5 else 4) (decide (cut m 0 3 % 2 = 1))).1 then 1 else 0), (M.bit (M.bit s 3 (decide (1 < cut m 0 3))).2 (if (M.bit s 3 (decide (1 < cut m 0 3))).1 then 5 else 4) (decide (cut m 0 3 % 2 = 1))).2) := rfl
  have S := hid (And.intro hs ho)
  have hm := Sp.bit
  have hcb := Sp.callBit
  have MO := hid hmo
  clear hs ho hmo
  go_enter Try.func26, Try.ntmps26
  go_wp2_with (go_at_call 45; refine (bound_any m 0 3 _).mono ?_; rintro e w' ⟨rfl, rfl⟩)
  generalize cut m 0 3 = mm at *
  refine (H.bitN _ F s 3 _ rfl (by omega) _ lim S.out.1 S.out.2 (by omega)).mono ?_
  rintro e w1 ⟨rfl, ⟨F1, a1, o1, f1⟩, ok1⟩
  have Y := hid (And.intro a1 (And.intro o1 (And.intro f1 ok1)))
  clear a1 o1 f1 ok1
  cases hq : (M.bit s 3 (decide (1 < mm))).1 with
  | true =>
    have Q := hid hq
    clear hq
    go_wp2_with fail
    refine (H.bitN _ F1 _ 5 _ rfl (by omega) _ _ Y.out.1 Y.out.2.2.2 (by omega)).mono ?_
    rintro e w2 ⟨rfl, h2, ok2⟩
    have Z := hid (Moved.step Y.out.2.1 Y.out.2.2.1 h2)
    clear h2 ok2
    have e2 : (mm % 2 == 1) = decide (mm % 2 = 1) := by cases h : decide (mm % 2 = 1) <;> simp_all
    have E2 := hid e2
    clear e2
    cases hq2 : (M.bit (M.bit s 3 (decide (1 < mm))).2 5 (mm % 2 == 1)).1 with
    | true =>
      have Q2 := hid hq2
      clear hq2
      go_wp2_with fail
      go_ret
      have q2 := Q2.out
      have z := Z.out
      rw [E2.out] at q2 z
      rw [MO.out, Q.out]
      simp only [if_true, q2]
      exact ⟨rfl, z⟩
    | false =>
      have Q2 := hid hq2
      clear hq2
      go_wp2_with fail
      go_ret
      have q2 := Q2.out
      have z := Z.out
      rw [E2.out] at q2 z
      rw [MO.out, Q.out]
      simp only [if_true, q2]
      exact ⟨rfl, z⟩
  | false =>
    have Q := hid hq
    clear hq
    go_wp2_with fail
    refine (H.bitN _ F1 _ 4 _ rfl (by omega) _ _ Y.out.1 Y.out.2.2.2 (by omega)).mono ?_
    rintro e w2 ⟨rfl, h2, ok2⟩
    have Z := hid (Moved.step Y.out.2.1 Y.out.2.2.1 h2)
    clear h2 ok2
    have e2 : (mm % 2 == 1) = decide (mm % 2 = 1) := by cases h : decide (mm % 2 = 1) <;> simp_all
    have E2 := hid e2
    clear e2
    cases hq2 : (M.bit (M.bit s 3 (decide (1 < mm))).2 4 (mm % 2 == 1)).1 with
    | true =>
      have Q2 := hid hq2
      clear hq2
      go_wp2_with fail
      go_ret
      have q2 := Q2.out
      have z := Z.out
      rw [E2.out] at q2 z
      rw [MO.out, Q.out]
      simp only [Bool.false_eq_true, if_false, q2, if_true]
      exact ⟨rfl, z⟩
    | false =>
      have Q2 := hid hq2
      clear hq2
      go_wp2_with fail
      go_ret
      have q2 := Q2.out
      have z := Z.out
      rw [E2.out] at q2 z
      rw [MO.out, Q.out]
      simp only [Bool.false_eq_true, if_false, q2]
      exact ⟨rfl, z⟩

set_option maxRecDepth 100000 in
set_option maxHeartbeats 400000 in
theorem rmode_any (b : Nat) (H : IsCoder M 32 33 (.pointer (some ⟨b, 0, none⟩)) At Ok) (m : Int) (s : σ) (w : World) (F : Nat → Prop) (lim : Nat) (hs : At w F s) (ho : Ok s lim) (hl : lim + 100 ≤ 1000000000) :
    Calls Try.prog 35 #[.pointer (some ⟨b, 0, none⟩), .int .i64 m] w (Coded At w F (M.mode m s)) := by
  have hc := cut_03 m
  have hmo : M.mode m s = ((if (M.bit s 3 (decide (1 < cut m 0 3))).1 then 2 else 0) + (if (M.bit (M.bit s 3 (decide (1 < cut m 0 3))).2 (if (M.bit s 3 (decide (1 < cut m 0 3))).1 then 5 else 4) (decide (cut m 0 3 % 2 = 1))).1 then 1 else 0), (M.bit (M.bit s 3 (decide (1 < cut m 0 3))).2 (if (M.bit s 3 (decide (1 < cut m 0 3))).1 then 5 else 4) (decide (cut m 0 3 % 2 = 1))).2) := rfl
  have S := hid (And.intro hs ho)
  have MO := hid hmo
  clear hs ho hmo
  go_enter Try.func35, Try.ntmps35
  have hcut : min (max m 0) 3 = cut m 0 3 := rfl
  go_wp2_with fail
  clear hcut
  generalize cut m 0 3 = mm at *
  refine (H.bitN _ F s 3 _ rfl (by omega) _ lim S.out.1 S.out.2 (by omega)).mono ?_
  rintro e w1 ⟨rfl, ⟨F1, a1, o1, f1⟩, ok1⟩
  have Y := hid (And.intro a1 (And.intro o1 (And.intro f1 ok1)))
  clear a1 o1 f1 ok1
  cases hq : (M.bit s 3 (decide (1 < mm))).1 with
  | true =>
    have Q := hid hq
    clear hq
    go_wp2_with fail
    refine (H.bitN _ F1 _ 5 _ rfl (by omega) _ _ Y.out.1 Y.out.2.2.2 (by omega)).mono ?_
    rintro e w2 ⟨rfl, h2, ok2⟩
    have Z := hid (Moved.step Y.out.2.1 Y.out.2.2.1 h2)
    clear h2 ok2
    have e2 : (mm % 2 == 1) = decide (mm % 2 = 1) := by cases h : decide (mm % 2 = 1) <;> simp_all
    have E2 := hid e2
    clear e2
    cases hq2 : (M.bit (M.bit s 3 (decide (1 < mm))).2 5 (mm % 2 == 1)).1 with
    | true =>
      have Q2 := hid hq2
      clear hq2
      go_wp2_with fail
      go_ret
      have q2 := Q2.out
      have z := Z.out
      rw [E2.out] at q2 z
      rw [MO.out, Q.out]
      simp only [if_true, q2]
      exact ⟨rfl, z⟩
    | false =>
      have Q2 := hid hq2
      clear hq2
      go_wp2_with fail
      go_ret
      have q2 := Q2.out
      have z := Z.out
      rw [E2.out] at q2 z
      rw [MO.out, Q.out]
      simp only [if_true, q2]
      exact ⟨rfl, z⟩
  | false =>
    have Q := hid hq
    clear hq
    go_wp2_with fail
    refine (H.bitN _ F1 _ 4 _ rfl (by omega) _ _ Y.out.1 Y.out.2.2.2 (by omega)).mono ?_
    rintro e w2 ⟨rfl, h2, ok2⟩
    have Z := hid (Moved.step Y.out.2.1 Y.out.2.2.1 h2)
    clear h2 ok2
    have e2 : (mm % 2 == 1) = decide (mm % 2 = 1) := by cases h : decide (mm % 2 = 1) <;> simp_all
    have E2 := hid e2
    clear e2
    cases hq2 : (M.bit (M.bit s 3 (decide (1 < mm))).2 4 (mm % 2 == 1)).1 with
    | true =>
      have Q2 := hid hq2
      clear hq2
      go_wp2_with fail
      go_ret
      have q2 := Q2.out
      have z := Z.out
      rw [E2.out] at q2 z
      rw [MO.out, Q.out]
      simp only [Bool.false_eq_true, if_false, q2, if_true]
      exact ⟨rfl, z⟩
    | false =>
      have Q2 := hid hq2
      clear hq2
      go_wp2_with fail
      go_ret
      have q2 := Q2.out
      have z := Z.out
      rw [E2.out] at q2 z
      rw [MO.out, Q.out]
      simp only [Bool.false_eq_true, if_false, q2]
      exact ⟨rfl, z⟩
end
end Go.Proofs.Ytgdhbmpdicdbpaa
