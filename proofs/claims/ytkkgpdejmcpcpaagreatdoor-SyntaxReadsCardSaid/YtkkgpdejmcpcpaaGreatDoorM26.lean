/- Parts: XPartR, XRSynA. -/
import Derived.Test.YtkkgpdejmcpcpaaGreatDoorM22
import Derived.Test.YtkkgpdejmcpcpaaGreatDoorM25
import Derived.Test.YtkkgpdejmcpcpaaGreatDoorM01
/- The document's Kind, Mode, Part: at whatever coder. -/
namespace Go.Proofs.YtkkgpdejmcpcpaaGreatDoor
open Go.RowKit
section
variable {σ : Type} {M : Mach σ} {fB fF : FuncId} {At : World → (Nat → Prop) → σ → Prop} {Ok : σ → Nat → Prop}
set_option maxRecDepth 100000 in
set_option maxHeartbeats 400000 in
theorem rkind_any (b : Nat) (H : IsCoder M 65 64 (.pointer (some ⟨b, 0, none⟩)) At Ok) (k : Int) (s : σ) (w : World) (F : Nat → Prop) (lim : Nat) (hs : At w F s) (ho : Ok s lim) (hl : lim + 100 ≤ 1000000000) :
    Calls Tryz.prog 63 #[.pointer (some ⟨b, 0, none⟩), .int .i64 k] w (Coded At w F (M.kind k s)) := by
  have S := hid (And.intro hs ho)
  clear hs ho
  go_enter Tryz.func63, Tryz.ntmps63
  go_wp2_with fail
  generalize k = kk at *
  go_loopg [5] 3 (fun j i wr => OnesRel M At Ok (fun n => n) kk 3 lim (M.ones (fun n => n) kk 3 0 s) w F j i wr)
  case atStart => exact ⟨0, s, rfl, rfl, Moved.refl S.out.1, S.out.2, rfl⟩
  case round =>
    obtain ⟨n, s', hn, rfl, hmv, ho, hfin⟩ := hrel
    have X := hid (And.intro hmv (And.intro ho hfin))
    clear hmv ho hfin
    by_cases h3 : n < 3
    · obtain ⟨j, rfl⟩ : ∃ j, gk = j + 1 := ⟨gk - 1, by omega⟩
      have hd : decide ((n : Int) < kk) = true ∨ decide ((n : Int) < kk) = false := by cases decide ((n : Int) < kk) <;> simp
      obtain ⟨F1, a1, o1, f1⟩ := X.out.1
      have Y := hid (And.intro a1 (And.intro o1 f1))
      clear a1 o1 f1
      go_wp2_with fail
      refine (H.bitN _ F1 s' n (n : Int) rfl (by omega) _ (lim + 3 * n) Y.out.1 X.out.2.1 (by omega)).mono ?_
      rintro e w1 ⟨rfl, h1, ok2⟩
      have Z := hid (And.intro (Moved.step Y.out.2.1 Y.out.2.2 h1) ok2)
      clear h1 ok2 hd
      cases hq : (M.bit s' n (decide ((n : Int) < kk))).1 with
      | true =>
        have Q := hid hq
        clear hq
        go_wp2_with fail
        obtain ⟨z1, z2⟩ := Z.out
        go_roundg j
        case measure => omega
        case rel => exact ⟨n + 1, _, by omega, by go_num, z1, by rw [show lim + 3 * (n + 1) = lim + 3 * n + 3 by omega]; exact z2, by rw [← X.out.2.2, ones_yes (f := fun n => n) Q.out]⟩
      | false =>
        have Q := hid hq
        clear hq
        go_wp2_with fail
        go_ret
        obtain ⟨z1, z2⟩ := Z.out
        have e : M.kind kk s = ((n : Int), (M.bit s' n (decide ((n : Int) < kk))).2) := by
          unfold Mach.kind
          rw [← X.out.2.2, ones_no (f := fun n => n) Q.out]
        rw [e]
        exact ⟨rfl, z1⟩
    · obtain rfl : n = 3 := by omega
      obtain rfl : gk = 0 := by omega
      go_wp2_with fail
      go_ret
      have e : M.kind kk s = ((3 : Int), s') := by
        unfold Mach.kind
        rw [← X.out.2.2]
        rfl
      rw [e]
      exact ⟨rfl, X.out.1⟩

set_option maxRecDepth 100000 in
set_option maxHeartbeats 400000 in
theorem rmode_any (b : Nat) (H : IsCoder M 65 64 (.pointer (some ⟨b, 0, none⟩)) At Ok) (m : Int) (s : σ) (w : World) (F : Nat → Prop) (lim : Nat) (hs : At w F s) (ho : Ok s lim) (hl : lim + 100 ≤ 1000000000) :
    Calls Tryz.prog 41 #[.pointer (some ⟨b, 0, none⟩), .int .i64 m] w (Coded At w F (M.mode m s)) := by
  have hc := cut_03 m
  have hmo : M.mode m s = ((if (M.bit s 3 (decide (1 < cut m 0 3))).1 then 2 else 0) + (if (M.bit (M.bit s 3 (decide (1 < cut m 0 3))).2 (if (M.bit s 3 (decide (1 < cut m 0 3))).1 then 5 else 4) (decide (cut m 0 3 % 2 = 1))).1 then 1 else 0), (M.bit (M.bit s 3 (decide (1 < cut m 0 3))).2 (if (M.bit s 3 (decide (1 < cut m 0 3))).1 then 5 else 4) (decide (cut m 0 3 % 2 = 1))).2) := rfl
  have S := hid (And.intro hs ho)
  have MO := hid hmo
  clear hs ho hmo
  go_enter Tryz.func41, Tryz.ntmps41
  have hcut : min (max m 0) 3 = cut m 0 3 := rfl
  go_wp2_with fail
  clear hcut
  generalize cut m 0 3 = mm at *
  refine (H.bitN _ F s 3 _ rfl (by omega) _ lim S.out.1 S.out.2 (by omega)).mono ?_
  rintro e w1 ⟨rfl, ⟨F1, a1, o1, f1⟩, ok1⟩
  have Y := hid (And.intro a1 (And.intro o1 (And.intro f1 ok1)))
  clear a1 o1 f1 ok1
  cases hq : (M.bit s 3 (decide (1 < mm))).1 with
  | true =>
    have Q := hid hq
    clear hq
    go_wp2_with fail
    refine (H.bitN _ F1 _ 5 _ rfl (by omega) _ _ Y.out.1 Y.out.2.2.2 (by omega)).mono ?_
    rintro e w2 ⟨rfl, h2, ok2⟩
    have Z := hid (Moved.step Y.out.2.1 Y.out.2.2.1 h2)
    clear h2 ok2
    have e2 : (mm % 2 == 1) = decide (mm % 2 = 1) := by cases h : decide (mm % 2 = 1) <;> simp_all
    have E2 := hid e2
    clear e2
    cases hq2 : (M.bit (M.bit s 3 (decide (1 < mm))).2 5 (mm % 2 == 1)).1 with
    | true =>
      have Q2 := hid hq2
      clear hq2
      go_wp2_with fail
      go_ret
      have q2 := Q2.out
      have z := Z.out
      rw [E2.out] at q2 z
      rw [MO.out, Q.out]
      simp only [if_true, q2]
      exact ⟨rfl, z⟩
    | false =>
      have Q2 := hid hq2
      clear hq2
      go_wp2_with fail
      go_ret
      have q2 := Q2.out
      have z := Z.out
      rw [E2.out] at q2 z
      rw [MO.out, Q.out]
      simp only [if_true, q2]
      exact ⟨rfl, z⟩
  | false =>
    have Q := hid hq
    clear hq
    go_wp2_with fail
    refine (H.bitN _ F1 _ 4 _ rfl (by omega) _ _ Y.out.1 Y.out.2.2.2 (by omega)).mono ?_
    rintro e w2 ⟨rfl, h2, ok2⟩
    have Z := hid (Moved.step Y.out.2.1 Y.out.2.2.1 h2)
    clear h2 ok2
    have e2 : (mm % 2 == 1) = decide (mm % 2 = 1) := by cases h : decide (mm % 2 = 1) <;> simp_all
    have E2 := hid e2
    clear e2
    cases hq2 : (M.bit (M.bit s 3 (decide (1 < mm))).2 4 (mm % 2 == 1)).1 with
    | true =>
      have Q2 := hid hq2
      clear hq2
      go_wp2_with fail
      go_ret
      have q2 := Q2.out
      have z := Z.out
      rw [E2.out] at q2 z
      rw [MO.out, Q.out]
      simp only [Bool.false_eq_true, if_false, q2, if_true]
      exact ⟨rfl, z⟩
    | false =>
      have Q2 := hid hq2
      clear hq2
      go_wp2_with fail
      go_ret
      have q2 := Q2.out
      have z := Z.out
      rw [E2.out] at q2 z
      rw [MO.out, Q.out]
      simp only [Bool.false_eq_true, if_false, q2]
      exact ⟨rfl, z⟩
set_option maxRecDepth 100000 in
set_option maxHeartbeats 800000 in
theorem rpart_any (b : Nat) (H : IsCoder M 65 64 (.pointer (some ⟨b, 0, none⟩)) At Ok) (v : Int) (s : σ) (w : World) (F : Nat → Prop) (lim : Nat) (hs : At w F s) (ho : Ok s lim) (hl : lim + 100 ≤ 1000000000) :
    Calls Tryz.prog 40 #[.pointer (some ⟨b, 0, none⟩), .int .i64 v] w (Coded At w F (M.part v s)) := by
  have hc := cut_15 v
  have hpd := part_def M v s
  have S := hid (And.intro hs ho)
  have PD := hid hpd
  clear hs ho hpd
  go_enter Tryz.func40, Tryz.ntmps40
  have hcut : min (max v (-15)) 15 = cut v (-15) 15 := rfl
  go_wp2_with fail
  clear hcut
  generalize cut v (-15) 15 = vv at *
  have e1 : (vv != 0) = decide (vv ≠ 0) := by cases h : decide (vv ≠ 0) <;> simp_all
  have E1 := hid e1
  clear e1
  refine (H.bitN _ F s 6 _ rfl (by omega) _ lim S.out.1 S.out.2 (by omega)).mono ?_
  rintro e w1 ⟨rfl, ⟨F1, a1, o1, f1⟩, ok1⟩
  rw [E1.out] at *
  have Y := hid (And.intro a1 (And.intro o1 (And.intro f1 ok1)))
  clear a1 o1 f1 ok1
  cases hq : (M.bit s 6 (decide (vv ≠ 0))).1 with
  | false =>
    have Q := hid hq
    clear hq
    go_wp2_with fail
    go_ret
    rw [PD.out, Q.out]
    simp only [Bool.false_eq_true, if_false]
    exact ⟨rfl, F1, Y.out.1, Y.out.2.1, Y.out.2.2.1⟩
  | true =>
    have Q := hid hq
    clear hq
    generalize hs1 : (M.bit s 6 (decide (vv ≠ 0))).2 = s1 at *
    have HS1 := hid hs1
    clear hs1
    go_wp2_with fail
    refine (H.flatN _ F1 s1 _ _ Y.out.1 Y.out.2.2.2 (by omega)).mono ?_
    rintro e w2 ⟨rfl, h2, ok2⟩
    obtain ⟨F2, a2, o2, f2⟩ := Moved.step Y.out.2.1 Y.out.2.2.1 h2
    have Z := hid (And.intro a2 (And.intro o2 (And.intro f2 ok2)))
    clear a2 o2 f2 ok2 h2
    generalize hdn : (M.flat s1 (decide (vv < 0))).1 = dn at *
    have DN := hid hdn
    clear hdn
    generalize hs2 : (M.flat s1 (decide (vv < 0))).2 = s2 at *
    have HS2 := hid hs2
    clear hs2
    have hmx : 0 ≤ max vv (-vv) ∧ max vv (-vv) ≤ 15 := by omega
    go_wp2_with fail
    generalize hkk : max vv (-vv) - 1 = kk at *
    have KK := hid hkk
    clear hkk hmx
    go_loopg [7] 14 (fun j i wr => OnesRel M At Ok partCtx kk 14 (lim + 6) (M.ones partCtx kk 14 0 s2) w F j i wr)
    case atStart => exact ⟨0, s2, rfl, rfl, ⟨F2, Z.out.1, Z.out.2.1, Z.out.2.2.1⟩, Z.out.2.2.2, rfl⟩
    case round =>
      obtain ⟨n, s', hn, rfl, hmv, ho, hfin⟩ := hrel
      have X := hid (And.intro hmv (And.intro ho hfin))
      clear hmv ho hfin
      by_cases h3 : n < 14
      · obtain ⟨j, rfl⟩ : ∃ j, gk = j + 1 := ⟨gk - 1, by omega⟩
        obtain ⟨F3, a3, o3, f3⟩ := X.out.1
        have Y3 := hid (And.intro a3 (And.intro o3 f3))
        clear a3 o3 f3
        go_wp2_with fail
        refine (H.bitN _ F3 s' (partCtx n) _ (by unfold partCtx; omega) (partCtx_lt n) _ _ Y3.out.1 X.out.2.1 (by omega)).mono ?_
        rintro e w3 ⟨rfl, h3, ok3⟩
        have Z3 := hid (And.intro (Moved.step Y3.out.2.1 Y3.out.2.2 h3) ok3)
        clear h3 ok3
        cases hq3 : (M.bit s' (partCtx n) (decide ((n : Int) < kk))).1 with
        | true =>
          have Q3 := hid hq3
          clear hq3
          go_wp2_with fail
          obtain ⟨z1, z2⟩ := Z3.out
          go_roundg j
          case measure => omega
          case rel => exact ⟨n + 1, _, by omega, by go_num, z1, by rw [show lim + 6 + 3 * (n + 1) = lim + 6 + 3 * n + 3 by omega]; exact z2, by rw [← X.out.2.2, ones_yes (f := partCtx) Q3.out]⟩
        | false =>
          have Q3 := hid hq3
          clear hq3
          have e : M.ones partCtx kk 14 0 s2 = (n, (M.bit s' (partCtx n) (decide ((n : Int) < kk))).2) := by
            rw [← X.out.2.2, ones_no (f := partCtx) Q3.out]
          have EE := hid e
          clear e
          cases dn with
          | true =>
            go_wp2_with fail
            go_ret
            rw [PD.out, Q.out, EE.out]
            simp only [if_true]
            exact ⟨rfl, Z3.out.1⟩
          | false =>
            go_wp2_with fail
            go_ret
            rw [PD.out, Q.out, EE.out]
            simp only [if_true, Bool.false_eq_true, if_false]
            exact ⟨rfl, Z3.out.1⟩
      · obtain rfl : n = 14 := by omega
        obtain rfl : gk = 0 := by omega
        have e : M.ones partCtx kk 14 0 s2 = (14, s') := by
          rw [← X.out.2.2]; rfl
        have EE := hid e
        clear e
        cases dn with
        | true =>
          go_wp2_with fail
          go_ret
          rw [PD.out, Q.out, EE.out]
          simp only [if_true]
          exact ⟨rfl, X.out.1⟩
        | false =>
          go_wp2_with fail
          go_ret
          rw [PD.out, Q.out, EE.out]
          simp only [if_true, Bool.false_eq_true, if_false]
          exact ⟨rfl, X.out.1⟩
end
end Go.Proofs.YtkkgpdejmcpcpaaGreatDoor

/- Chapter 20: the document's parts, levels, kind. -/
namespace Go.Proofs.YtkkgpdejmcpcpaaGreatDoor
open Go.RowKit

theorem blk2R {W : World} {g : Nat} {t : TypeId} {a0 a1 : Value} (h : Blk W g t #[a0, a1]) : W.cell? ⟨g, 0, none⟩ = some a0 ∧ W.cell? ⟨g, 1, none⟩ = some a1 := ⟨(h.cell 0).trans rfl, (h.cell 1).trans rfl⟩
/-- An error without a path. -/
abbrev errA (c : Int) : Value := .agg #[.int .i64 c, .slice none 0 0]
set_option maxRecDepth 100000 in
set_option maxHeartbeats 1000000 in
theorem rlevels_any (x : Value) (l : List Int) (n : Nat) (z : Int) (hz : z = (n : Int)) (w : World) (hx : Nums w x l) (hn : n = 16 ∨ n = 64) :
    Calls Tryz.prog 62 #[x, .int .i64 z] w fun e w' => e = .returned (errA (levelsNo l n)) ∧ Below w.heap.size w w' := by
  obtain ⟨A, c, rfl, _⟩ := hx.form
  subst hz
  have hb1 : Below w.heap.size w (w.alloc (.cells #[.int .i64 0, .slice none 0 0] 46)) := (Below.refl _ _).alloc (Nat.le_refl _) _
  have P0 := hid (And.intro (Blk.new w 46 #[.int .i64 0, .slice none 0 0]) hb1)
  have hcase : (((l.length : Int) != (n : Int)) = true ∧ levelsNo l n = 14) ∨ (((l.length : Int) != (n : Int)) = false ∧ l.length = n ∧ l.any lvOut = true ∧ levelsNo l n = 3) ∨ (((l.length : Int) != (n : Int)) = false ∧ l.length = n ∧ l.any lvOut = false ∧ levelsNo l n = 0) := by
    unfold levelsNo
    by_cases h : l.length = n
    · have h1 : ((l.length : Int) != (n : Int)) = false := by rw [h]; simp
      rw [if_neg (fun k => k h)]
      cases hq : l.any lvOut
      · exact .inr (.inr ⟨h1, h, rfl, rfl⟩)
      · exact .inr (.inl ⟨h1, h, rfl, rfl⟩)
    · exact .inl ⟨by simp; omega, by rw [if_pos h]⟩
  rcases hcase with ⟨h1, h2⟩ | ⟨h1, hln, hq, h2⟩ | ⟨h1, hln, hq, h2⟩
  · rw [h2]
    clear hx h2 hb1
    go_enter Tryz.func62, Tryz.ntmps62
    go_wp2_with fail
    generalize w.alloc (.cells #[.int .i64 0, .slice none 0 0] 46) = w1 at *
    refine (fail_any _ _).mono ?_
    rintro e w3 ⟨rfl, hb3⟩
    have hP := P0.out.1.below hb3 P0.out.1.lt
    obtain ⟨e0, e1⟩ := blk2R hP
    have ef0 := hP.frozen 0
    have ef1 := hP.frozen 1
    obtain ⟨z0, z1⟩ := blk2R ((hP.put 0 (.int .i64 14)).put 1 (.slice none 0 0))
    have B3 := hid (P0.out.2.trans (hb3.mono P0.out.2.size))
    clear hb3 hP
    go_wp2_with fail
    exact bodyPost_ret (v := errA 14) (by simp [errA, results, Tryz.results62, go_sem, z0, z1]) rfl ⟨rfl, (B3.out.setCell (p := ⟨w.heap.size, 0, none⟩) (Nat.le_refl _) _).setCell (p := ⟨w.heap.size, 1, none⟩) (Nat.le_refl _) _⟩
  · have HWI := hid (within_any _ l (-16320) 16320 _ (hx.below hb1) (by omega))
    rw [within_out l, hq] at HWI
    rw [h2]
    clear hx h2 hb1 hq hln
    go_enter Tryz.func62, Tryz.ntmps62
    go_wp2_with fail
    generalize w.alloc (.cells #[.int .i64 0, .slice none 0 0] 46) = w1 at *
    refine HWI.out.mono ?_
    rintro e w2 ⟨rfl, rfl⟩
    go_wp2_with fail
    refine (fail_any _ _).mono ?_
    rintro e w3 ⟨rfl, hb3⟩
    have hP := P0.out.1.below hb3 P0.out.1.lt
    obtain ⟨e0, e1⟩ := blk2R hP
    have ef0 := hP.frozen 0
    have ef1 := hP.frozen 1
    obtain ⟨z0, z1⟩ := blk2R ((hP.put 0 (.int .i64 3)).put 1 (.slice none 0 0))
    have B3 := hid (P0.out.2.trans (hb3.mono P0.out.2.size))
    clear hb3 hP
    go_wp2_with fail
    exact bodyPost_ret (v := errA 3) (by simp [errA, results, Tryz.results62, go_sem, z0, z1]) rfl ⟨rfl, (B3.out.setCell (p := ⟨w.heap.size, 0, none⟩) (Nat.le_refl _) _).setCell (p := ⟨w.heap.size, 1, none⟩) (Nat.le_refl _) _⟩
  · have HWI := hid (within_any _ l (-16320) 16320 _ (hx.below hb1) (by omega))
    rw [within_out l, hq] at HWI
    rw [h2]
    have B1 := hid hb1
    clear hx h2 hb1 hq hln
    go_enter Tryz.func62, Tryz.ntmps62
    go_wp2_with fail
    refine HWI.out.mono ?_
    rintro e w2 ⟨rfl, rfl⟩
    go_wp2_with fail
    exact bodyPost_ret (v := errA 0) (by simp [errA, results, Tryz.results62, go_sem]) rfl ⟨rfl, B1.out⟩
theorem all_modes (l : List Int) : (l.all fun v => decide ((0 : Int) ≤ v) && decide (v ≤ (3 : Int))) = l.all inMode := rfl
set_option maxRecDepth 100000 in
set_option maxHeartbeats 2000000 in
theorem rparts_tell (vv : Value) (s : SqS) (m0 m1 m2 m3 : Int) (lv v0 v1 v2 v3 : Value) (hv : SqNum vv s m0 m1 m2 m3 lv v0 v1 v2 v3) (w : World) :
    Calls Tryz.prog 61 #[vv] w fun e w' => e = .returned (.bool (boundsS s)) ∧ Below w.heap.size w w' := by
  obtain ⟨rfl, hm⟩ := hv
  unfold sqV
  have BD := hid (show boundsS s = if s.kind = 1 then (decide (-15 ≤ s.x) && decide (s.x ≤ 15)) && (decide (-15 ≤ s.y) && decide (s.y ≤ 15)) else if s.kind = 2 then decide (0 ≤ s.mode) && decide (s.mode ≤ 3) else if s.kind = 3 then s.modes.all inMode else true from rfl)
  rw [hm] at BD
  generalize boundsS s = q at *
  generalize s.kind = k at *
  generalize s.mode = mode at *
  generalize s.x = x at *
  generalize s.y = y at *
  have B1 := hid (show Below w.heap.size w (w.alloc (.cells #[.int .i64 k, .int .i64 mode, .int .i64 m0, .int .i64 m1, .int .i64 m2, .int .i64 m3, .int .i64 x, .int .i64 y, lv, v0, v1, v2, v3] 42)) from (Below.refl _ _).alloc (Nat.le_refl _) _)
  have HK := hid (Blk.new w 42 #[.int .i64 k, .int .i64 mode, .int .i64 m0, .int .i64 m1, .int .i64 m2, .int .i64 m3, .int .i64 x, .int .i64 y, lv, v0, v1, v2, v3])
  have hc : k = 1 ∨ k = 2 ∨ k = 3 ∨ (¬ k = 1 ∧ ¬ k = 2 ∧ ¬ k = 3) := by omega
  rcases hc with rfl | rfl | rfl | ⟨h1, h2, h3⟩
  · have ha : decide (-15 ≤ x) = true ∨ decide (-15 ≤ x) = false := by cases decide (-15 ≤ x) <;> simp
    have hb : decide (x ≤ 15) = true ∨ decide (x ≤ 15) = false := by cases decide (x ≤ 15) <;> simp
    have hd : decide (-15 ≤ y) = true ∨ decide (-15 ≤ y) = false := by cases decide (-15 ≤ y) <;> simp
    rcases ha with ha | ha <;> rcases hb with hb | hb <;> rcases hd with hd | hd
    all_goals
      go_enter Tryz.func61, Tryz.ntmps61
      go_wp2_with fail
      go_ret
      refine ⟨?_, B1.out.alloc B1.out.size _⟩
      rw [BD.out]
      simp [ha, hb, hd]
  · have ha : decide (0 ≤ mode) = true ∨ decide (0 ≤ mode) = false := by cases decide (0 ≤ mode) <;> simp
    rcases ha with ha | ha
    all_goals
      go_enter Tryz.func61, Tryz.ntmps61
      go_wp2_with fail
      go_ret
      refine ⟨?_, B1.out⟩
      rw [BD.out]
      simp [ha]
  · go_enter Tryz.func61, Tryz.ntmps61
    go_wp2_with fail
    refine (within_any _ [m0, m1, m2, m3] 0 3 _ (nums_in_blk HK.out (off := 2) (c := 4) (fun i v hv => ?_) (by simp)) (by simp)).mono ?_
    · match i, hv with
      | 0, hv => simpa using hv
      | 1, hv => simpa using hv
      | 2, hv => simpa using hv
      | 3, hv => simpa using hv
      | i + 4, hv => simp at hv
    rintro e w2 ⟨rfl, rfl⟩
    rw [all_modes]
    have hq : q = [m0, m1, m2, m3].all inMode := by rw [BD.out]; simp
    rw [← hq]
    clear hq
    go_wp2_with fail
    go_ret
    exact ⟨rfl, B1.out⟩
  · go_enter Tryz.func61, Tryz.ntmps61
    have d1 : (k == 1) = false := by simp; omega
    have d2 : (k == 2) = false := by simp; omega
    have d3 : (k == 3) = false := by simp; omega
    go_wp2_with fail
    go_ret
    refine ⟨?_, B1.out⟩
    rw [BD.out]
    simp [h1, h2, h3]
section
variable {σ : Type} {M : Mach σ} {At : World → (Nat → Prop) → σ → Prop} {Ok : σ → Nat → Prop}
set_option maxRecDepth 100000 in
set_option maxHeartbeats 1000000 in
theorem rhead_any (b : Nat) (H : IsCoder M 65 64 (.pointer (some ⟨b, 0, none⟩)) At Ok) (key : Bool) (k : Int) (s : σ) (w : World) (F : Nat → Prop) (lim : Nat) (hs : At w F s) (ho : Ok s lim) (hl : lim + 100 ≤ 1000000000) :
    Calls Tryz.prog 39 #[.pointer (some ⟨b, 0, none⟩), .bool key, .int .i64 k] w (Coded At w F (M.run (headA key k) s)) := by
  cases key with
  | false =>
    have HK := hid (rkind_any b H k s w F lim hs ho hl)
    have hr : M.run (headA false k) s = M.kind k s := run_kind M k s
    rw [hr]
    clear hr hs ho
    go_enter Tryz.func39, Tryz.ntmps39
    go_wp2_with fail
    refine HK.out.mono ?_
    rintro e w2 ⟨rfl, hm⟩
    have HM := hid hm
    clear hm
    go_wp2_with fail
    go_ret
    exact ⟨rfl, HM.out⟩
  | true =>
    have HF := hid (H.flatN w F s (k == 3) lim hs ho (by omega))
    have hr := hid (show M.run (headA true k) s = (if (M.flat s (k == 3)).1 = true then 3 else 2, (M.flat s (k == 3)).2) from rfl)
    generalize M.run (headA true k) s = R at *
    clear hs ho
    go_enter Tryz.func39, Tryz.ntmps39
    go_wp2_with fail
    refine HF.out.mono ?_
    rintro e w2 ⟨rfl, hm, _⟩
    have HM := hid hm
    clear hm
    cases hq : (M.flat s (k == 3)).1 with
    | true =>
      have HQ := hid hq
      clear hq
      go_wp2_with fail
      go_ret
      have hR : R = (3, (M.flat s (k == 3)).2) := by rw [hr.out, HQ.out]; rfl
      rw [hR]
      exact ⟨rfl, HM.out⟩
    | false =>
      have HQ := hid hq
      clear hq
      go_wp2_with fail
      go_ret
      have hR : R = (2, (M.flat s (k == 3)).2) := by rw [hr.out, HQ.out]; rfl
      rw [hR]
      exact ⟨rfl, HM.out⟩
end
end Go.Proofs.YtkkgpdejmcpcpaaGreatDoor

