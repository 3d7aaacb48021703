/- kinref4.Next: the walk behind the length. -/
import Derived.Test.YtabklmkdneoaaaaDoorURNext
import Derived.Deep.RegionHeld3
namespace Go.Proofs.YtabklmkdneoaaaaDoor
open Go.RowKit

theorem quiet_left4 {P : Program} {f : FuncId} {args : Array Value} {w : World} {n : Nat} {v : Value}
    (h : Calls P f args (w.drewN n) fun e w' => e = .returned v ∧ w.drewN n = w') : Calls P f args (w.drewN n) fun e w'' => e = .returned v ∧ ∃ m, w'' = w.drewN m :=
  h.mono fun _ _ ⟨he, hm⟩ => ⟨he, n, hm.symm⟩
set_option maxRecDepth 100000 in
set_option maxHeartbeats 2000000 in
theorem rnext_long (x : Value) (bs r : List UInt8) (k : Nat) (u x1 x2 x3 : UInt8) (w : World) (hx : Byt w x bs) (hk : k < bs.length) (hr : bs.drop k = u :: x1 :: x2 :: x3 :: r) (h0 : u ≠ 0) (_ : bs.length ≤ 1000000) (hn : 65536 < be [x1, x2, x3]) :
    Calls Tryd.prog 28 #[x, .int .i64 k] w (RNoUnit 5 [(unitS, k)] w) := by
  obtain ⟨A, c, rfl, hc⟩ := hx.form
  obtain ⟨b, off, rfl, hb, hd⟩ := hx.drop hk
  have hm : bs.length - k = r.length + 4 := by rw [← List.length_drop, hr]; rfl
  rw [hr] at hd
  have hu : bs[k]? = some u := by
    have := congrArg (·[0]?) hr
    simpa using this
  have hne : ¬ (c = k) := by omega
  have k0 : (0 : Int) ≤ (k : Int) := by omega
  have k1 : (k : Int) < (bs.length : Int) := by omega
  have t1 : decide ((k : Int) < 0) = false := by simp
  have t2 : decide ((bs.length : Int) ≤ (k : Int)) = false := by simp; omega
  have t3 : decide (((bs.length - k : Nat) : Int) < 4) = false := by simp; omega
  have c0 := hx.cell k u hu
  have e4 : bs.length - k = (u :: x1 :: x2 :: x3 :: r).length := by rw [hm]; rfl
  have hd' := hd
  rw [e4] at hd'
  have c1 : w.cell? ⟨b, off + k + 1, none⟩ = some (.int .u8 x1.toNat) := hd'.cell 1 x1 rfl
  have c2 : w.cell? ⟨b, off + k + 2, none⟩ = some (.int .u8 x2.toNat) := hd'.cell 2 x2 rfl
  have c3 : w.cell? ⟨b, off + k + 3, none⟩ = some (.int .u8 x3.toNat) := hd'.cell 3 x3 rfl
  have hu0 : ((u.toNat : Int) == 0) = false := by
    simp
    intro h
    exact h0 (UInt8.toNat_inj.1 h)
  have i1 : (1 : Int) < ((bs.length - k : Nat) : Int) := by omega
  have i2 : (2 : Int) < ((bs.length - k : Nat) : Int) := by omega
  have i3 : (3 : Int) < ((bs.length - k : Nat) : Int) := by omega
  have R0 := hid (RB.new w)
  have hV : Byt w (.slice (some ⟨b, off + k + 1, none⟩) 3 (c - k - 1)) [x1, x2, x3] := by
    have h1 := hd'.dropAt (k := 1) (by simp)
    have h2 : Byt w (.slice (some ⟨b, off + k + 1, none⟩) (x1 :: x2 :: x3 :: r).length (c - k - 1)) (x1 :: x2 :: x3 :: r) := h1
    exact h2.take (k := 3) (by simp)
  have HV := hid hV
  clear hV
  generalize hN : be [x1, x2, x3] = N at *
  have HN := hid hN
  have XD := hid (And.intro hr (And.intro hd' (And.intro hx (And.intro e4 h0))))
  have M := hid hm
  clear hx hd hd' hu h0 hr hN e4 hm
  have t4 : decide (65536 < (N : Int)) = true := by simp; omega
  go_enter Tryd.func28, Tryd.ntmps28
  go_wp2_with fail
  refine (uvalue_any _ [x1, x2, x3] _ (by exact HV.out.below R0.out.bel) (by simp)).mono ?_
  rintro e w9 ⟨rfl, rfl⟩
  rw [HN.out]
  go_wp2_with fail
  refine (kwrap_any ⟨#[117, 110, 105, 116]⟩ k 5 _ (by omega)).mono ?_
  rintro e w2 ⟨pv, rfl, hst, hfr, hb2⟩
  have R1 := hid (R0.out.step hb2)
  obtain ⟨A9, c9, rfl, _⟩ := id hst
  obtain ⟨r0, r1, r2, r3, r4, r5⟩ := R1.out.cells
  obtain ⟨f0, f1, f2, f3, f4, f5⟩ := R1.out.frozen
  have ST := hid (And.intro hst (show ∀ k, (Value.slice A9 1 c9).ownBlock = some k → w.heap.size + 2 ≤ k from fun k hk => by have := hfr k hk; simp at this; omega))
  clear hb2 hst hfr
  go_wp2_with fail
  obtain ⟨h0, h1, h2, h3, h4, h5⟩ := R1.out.laid_cells (.int .i64 0) (.slice none 0 0) (.int .i64 0) (.int .i64 0) (.int .i64 5) (.slice A9 1 c9)
  refine bodyPost_ret (v := .tuple #[.agg #[.int .i64 0, .slice none 0 0, .int .i64 0, .int .i64 0], .agg #[.int .i64 5, .slice A9 1 c9]]) ?_ rfl ⟨.slice A9 1 c9, rfl, ST.out.1.only (laid6_only w w2 (.int .i64 0) (.slice none 0 0) (.int .i64 0) (.int .i64 0) (.int .i64 5) (.slice A9 1 c9)) (fun k hk e => by have := ST.out.2 k hk; omega), R1.out.laid_bel (.int .i64 0) (.slice none 0 0) (.int .i64 0) (.int .i64 0) (.int .i64 5) (.slice A9 1 c9)⟩
  simp [results, Tryd.results28, go_sem, h0, h1, h2, h3, h4, h5]
set_option maxRecDepth 100000 in
set_option maxHeartbeats 2000000 in
theorem rnext_short2 (x : Value) (bs r : List UInt8) (k : Nat) (u x1 x2 x3 : UInt8) (w : World) (hx : Byt w x bs) (hk : k < bs.length) (hr : bs.drop k = u :: x1 :: x2 :: x3 :: r) (h0 : u ≠ 0) (_ : bs.length ≤ 1000000) (hn : be [x1, x2, x3] ≤ 65536) (hs : r.length < be [x1, x2, x3] + 4) :
    Calls Tryd.prog 28 #[x, .int .i64 k] w (RNoUnit 1 [(unitS, k)] w) := by
  obtain ⟨A, c, rfl, hc⟩ := hx.form
  obtain ⟨b, off, rfl, hb, hd⟩ := hx.drop hk
  have hm : bs.length - k = r.length + 4 := by rw [← List.length_drop, hr]; rfl
  rw [hr] at hd
  have hu : bs[k]? = some u := by
    have := congrArg (·[0]?) hr
    simpa using this
  have hne : ¬ (c = k) := by omega
  have k0 : (0 : Int) ≤ (k : Int) := by omega
  have k1 : (k : Int) < (bs.length : Int) := by omega
  have t1 : decide ((k : Int) < 0) = false := by simp
  have t2 : decide ((bs.length : Int) ≤ (k : Int)) = false := by simp; omega
  have t3 : decide (((bs.length - k : Nat) : Int) < 4) = false := by simp; omega
  have c0 := hx.cell k u hu
  have e4 : bs.length - k = (u :: x1 :: x2 :: x3 :: r).length := by rw [hm]; rfl
  have hd' := hd
  rw [e4] at hd'
  have c1 : w.cell? ⟨b, off + k + 1, none⟩ = some (.int .u8 x1.toNat) := hd'.cell 1 x1 rfl
  have c2 : w.cell? ⟨b, off + k + 2, none⟩ = some (.int .u8 x2.toNat) := hd'.cell 2 x2 rfl
  have c3 : w.cell? ⟨b, off + k + 3, none⟩ = some (.int .u8 x3.toNat) := hd'.cell 3 x3 rfl
  have hu0 : ((u.toNat : Int) == 0) = false := by
    simp
    intro h
    exact h0 (UInt8.toNat_inj.1 h)
  have i1 : (1 : Int) < ((bs.length - k : Nat) : Int) := by omega
  have i2 : (2 : Int) < ((bs.length - k : Nat) : Int) := by omega
  have i3 : (3 : Int) < ((bs.length - k : Nat) : Int) := by omega
  have R0 := hid (RB.new w)
  have hV : Byt w (.slice (some ⟨b, off + k + 1, none⟩) 3 (c - k - 1)) [x1, x2, x3] := by
    have h1 := hd'.dropAt (k := 1) (by simp)
    have h2 : Byt w (.slice (some ⟨b, off + k + 1, none⟩) (x1 :: x2 :: x3 :: r).length (c - k - 1)) (x1 :: x2 :: x3 :: r) := h1
    exact h2.take (k := 3) (by simp)
  have HV := hid hV
  clear hV
  generalize hN : be [x1, x2, x3] = N at *
  have HN := hid hN
  have XD := hid (And.intro hr (And.intro hd' (And.intro hx (And.intro e4 h0))))
  have M := hid hm
  clear hx hd hd' hu h0 hr hN e4 hm
  have t4 : decide (65536 < (N : Int)) = false := by simp; omega
  have t5 : decide (((bs.length - k : Nat) : Int) < (N : Int) + 8) = true := by have := M.out; simp; omega
  go_enter Tryd.func28, Tryd.ntmps28
  go_wp2_with fail
  refine (uvalue_any _ [x1, x2, x3] _ (by exact HV.out.below R0.out.bel) (by simp)).mono ?_
  rintro e w9 ⟨rfl, rfl⟩
  rw [HN.out]
  go_wp2_with fail
  refine (kwrap_any ⟨#[117, 110, 105, 116]⟩ k 1 _ (by omega)).mono ?_
  rintro e w2 ⟨pv, rfl, hst, hfr, hb2⟩
  have R1 := hid (R0.out.step hb2)
  obtain ⟨A9, c9, rfl, _⟩ := id hst
  obtain ⟨r0, r1, r2, r3, r4, r5⟩ := R1.out.cells
  obtain ⟨f0, f1, f2, f3, f4, f5⟩ := R1.out.frozen
  have ST := hid (And.intro hst (show ∀ k, (Value.slice A9 1 c9).ownBlock = some k → w.heap.size + 2 ≤ k from fun k hk => by have := hfr k hk; simp at this; omega))
  clear hb2 hst hfr
  go_wp2_with fail
  obtain ⟨h0, h1, h2, h3, h4, h5⟩ := R1.out.laid_cells (.int .i64 0) (.slice none 0 0) (.int .i64 0) (.int .i64 0) (.int .i64 1) (.slice A9 1 c9)
  refine bodyPost_ret (v := .tuple #[.agg #[.int .i64 0, .slice none 0 0, .int .i64 0, .int .i64 0], .agg #[.int .i64 1, .slice A9 1 c9]]) ?_ rfl ⟨.slice A9 1 c9, rfl, ST.out.1.only (laid6_only w w2 (.int .i64 0) (.slice none 0 0) (.int .i64 0) (.int .i64 0) (.int .i64 1) (.slice A9 1 c9)) (fun k hk e => by have := ST.out.2 k hk; omega), R1.out.laid_bel (.int .i64 0) (.slice none 0 0) (.int .i64 0) (.int .i64 0) (.int .i64 1) (.slice A9 1 c9)⟩
  simp [results, Tryd.results28, go_sem, h0, h1, h2, h3, h4, h5]
set_option maxRecDepth 100000 in
set_option maxHeartbeats 2000000 in
theorem rnext_sum (x : Value) (bs r r' : List UInt8) (k : Nat) (u x1 x2 x3 y0 y1 y2 y3 : UInt8) (w : World) (hx : Byt w x bs) (hk : k < bs.length) (hr : bs.drop k = u :: x1 :: x2 :: x3 :: r) (h0 : u ≠ 0) (_ : bs.length ≤ 1000000) (hn : be [x1, x2, x3] ≤ 65536) (hs : r.drop (be [x1, x2, x3]) = y0 :: y1 :: y2 :: y3 :: r') (hq : be [y0, y1, y2, y3] ≠ sumOf (u :: x1 :: x2 :: x3 :: r.take (be [x1, x2, x3]))) :
    Calls Tryd.prog 28 #[x, .int .i64 k] w (RNoUnit 4 [(unitS, k)] w) := by
  obtain ⟨A, c, rfl, hc⟩ := hx.form
  obtain ⟨b, off, rfl, hb, hd⟩ := hx.drop hk
  have hm : bs.length - k = r.length + 4 := by rw [← List.length_drop, hr]; rfl
  rw [hr] at hd
  have hu : bs[k]? = some u := by
    have := congrArg (·[0]?) hr
    simpa using this
  have hne : ¬ (c = k) := by omega
  have k0 : (0 : Int) ≤ (k : Int) := by omega
  have k1 : (k : Int) < (bs.length : Int) := by omega
  have t1 : decide ((k : Int) < 0) = false := by simp
  have t2 : decide ((bs.length : Int) ≤ (k : Int)) = false := by simp; omega
  have t3 : decide (((bs.length - k : Nat) : Int) < 4) = false := by simp; omega
  have c0 := hx.cell k u hu
  have e4 : bs.length - k = (u :: x1 :: x2 :: x3 :: r).length := by rw [hm]; rfl
  have hd' := hd
  rw [e4] at hd'
  have c1 : w.cell? ⟨b, off + k + 1, none⟩ = some (.int .u8 x1.toNat) := hd'.cell 1 x1 rfl
  have c2 : w.cell? ⟨b, off + k + 2, none⟩ = some (.int .u8 x2.toNat) := hd'.cell 2 x2 rfl
  have c3 : w.cell? ⟨b, off + k + 3, none⟩ = some (.int .u8 x3.toNat) := hd'.cell 3 x3 rfl
  have hu0 : ((u.toNat : Int) == 0) = false := by
    simp
    intro h
    exact h0 (UInt8.toNat_inj.1 h)
  have i1 : (1 : Int) < ((bs.length - k : Nat) : Int) := by omega
  have i2 : (2 : Int) < ((bs.length - k : Nat) : Int) := by omega
  have i3 : (3 : Int) < ((bs.length - k : Nat) : Int) := by omega
  have R0 := hid (RB.new w)
  have hV : Byt w (.slice (some ⟨b, off + k + 1, none⟩) 3 (c - k - 1)) [x1, x2, x3] := by
    have h1 := hd'.dropAt (k := 1) (by simp)
    have h2 : Byt w (.slice (some ⟨b, off + k + 1, none⟩) (x1 :: x2 :: x3 :: r).length (c - k - 1)) (x1 :: x2 :: x3 :: r) := h1
    exact h2.take (k := 3) (by simp)
  have HV := hid hV
  clear hV
  generalize hN : be [x1, x2, x3] = N at *
  have HN := hid hN
  have XD := hid (And.intro hr (And.intro hd' (And.intro hx (And.intro e4 h0))))
  have M := hid hm
  clear hx hd hd' hu h0 hr hN e4 hm
  have hlen : N + 4 ≤ r.length := by have := congrArg List.length hs; simp at this; omega
  have t4 : decide (65536 < (N : Int)) = false := by simp; omega
  have t5 : decide (((bs.length - k : Nat) : Int) < (N : Int) + 8) = false := by have := M.out; simp; omega
  have e6 : (8 : Int) + (N : Int) ≤ ((c - k : Nat) : Int) := by have := M.out; omega
  have e7 : 8 + N - (4 + N) = 4 := by omega
  have j5 : (4 : Int) + (N : Int) ≤ ((c - k : Nat) : Int) := by omega
  have htk : (u :: x1 :: x2 :: x3 :: r).take (4 + N) = u :: x1 :: x2 :: x3 :: r.take N := by rw [Nat.add_comm]; rfl
  have hD : Byt w (.slice (some ⟨b, off + k, none⟩) (u :: x1 :: x2 :: x3 :: r).length (c - k)) (u :: x1 :: x2 :: x3 :: r) := XD.out.2.1
  have hSB := hD.take (k := 4 + N) (by simp; omega)
  rw [htk] at hSB
  have hYB : Byt w (.slice (some ⟨b, off + k + (4 + N), none⟩) 4 (c - k - (4 + N))) [y0, y1, y2, y3] := by
    have h1 := hD.dropAt (k := 4 + N) (by simp; omega)
    have e3 : (u :: x1 :: x2 :: x3 :: r).drop (4 + N) = y0 :: y1 :: y2 :: y3 :: r' := by rw [Nat.add_comm, ← hs]; rfl
    have e4 : (u :: x1 :: x2 :: x3 :: r).length - (4 + N) = (y0 :: y1 :: y2 :: y3 :: r').length := by rw [← e3, List.length_drop]
    rw [e3, e4] at h1
    exact h1.take (k := 4) (by simp)
  have SB : Hid (∀ W, Below w.heap.size w W → Byt W (.slice (some ⟨b, off + k, none⟩) (4 + N) (c - k)) (u :: x1 :: x2 :: x3 :: r.take N)) := fun W hW => hSB.below hW
  have YB : Hid (∀ W, Below w.heap.size w W → Byt W (.slice (some ⟨b, off + k + (4 + N), none⟩) 4 (c - k - (4 + N))) [y0, y1, y2, y3]) := fun W hW => hYB.below hW
  have SL := hid (show (u :: x1 :: x2 :: x3 :: r.take N).length ≤ 1000000000 by simp; omega)
  have hcv : IntKind.i64.wrap (sumOf (u :: x1 :: x2 :: x3 :: r.take N) : Int) = (sumOf (u :: x1 :: x2 :: x3 :: r.take N) : Int) := IntWalk.i64_in _ (by have := sumOf_lt (u :: x1 :: x2 :: x3 :: r.take N); omega)
  have t6 : ((be [y0, y1, y2, y3] : Int) != (sumOf (u :: x1 :: x2 :: x3 :: r.take N) : Int)) = true := by simp; omega
  clear hq
  have HY := hid (And.intro hs hlen)
  clear hs hlen hSB hD htk hYB
  go_enter Tryd.func28, Tryd.ntmps28
  go_wp2_with fail
  refine (uvalue_any _ [x1, x2, x3] _ (by exact HV.out.below R0.out.bel) (by simp)).mono ?_
  rintro e w9 ⟨rfl, rfl⟩
  rw [HN.out]
  go_wp2_with fail
  go_quiet ((first
    | (go_at_call 73; exact quiet_left4 (uvalue_any _ [y0, y1, y2, y3] _ (by exact YB.out _ (R0.out.drewN _).bel) (by simp)))
    | (go_at_call 35; exact quiet_left4 (rsum_any _ (u :: x1 :: x2 :: x3 :: r.take N) _ (by exact SB.out _ (R0.out.drewN _).bel) SL.out))))
  go_wp2_with fail
  refine (kwrap_any ⟨#[117, 110, 105, 116]⟩ k 4 _ (by omega)).mono ?_
  rintro e w2 ⟨pv, rfl, hst, hfr, hb2⟩
  have R1 := hid ((R0.out.drewN _).step hb2)
  obtain ⟨A9, c9, rfl, _⟩ := id hst
  obtain ⟨r0, r1, r2, r3, r4, r5⟩ := R1.out.cells
  obtain ⟨f0, f1, f2, f3, f4, f5⟩ := R1.out.frozen
  have ST := hid (And.intro hst (show ∀ k, (Value.slice A9 1 c9).ownBlock = some k → w.heap.size + 2 ≤ k from fun k hk => by have := hfr k hk; simp at this; omega))
  clear hb2 hst hfr
  go_wp2_with fail
  obtain ⟨h0, h1, h2, h3, h4, h5⟩ := R1.out.laid_cells (.int .i64 0) (.slice none 0 0) (.int .i64 0) (.int .i64 0) (.int .i64 4) (.slice A9 1 c9)
  refine bodyPost_ret (v := .tuple #[.agg #[.int .i64 0, .slice none 0 0, .int .i64 0, .int .i64 0], .agg #[.int .i64 4, .slice A9 1 c9]]) ?_ rfl ⟨.slice A9 1 c9, rfl, ST.out.1.only (laid6_only w w2 (.int .i64 0) (.slice none 0 0) (.int .i64 0) (.int .i64 0) (.int .i64 4) (.slice A9 1 c9)) (fun k hk e => by have := ST.out.2 k hk; omega), R1.out.laid_bel (.int .i64 0) (.slice none 0 0) (.int .i64 0) (.int .i64 0) (.int .i64 4) (.slice A9 1 c9)⟩
  simp [results, Tryd.results28, go_sem, h0, h1, h2, h3, h4, h5]
end Go.Proofs.YtabklmkdneoaaaaDoor
