/- Chapter 27: Same. -/
import Derived.Test.YtabklmkdneoaaaaDoorJobZ
import Derived.Deep.RegionHeldLaw
namespace Go.Proofs.YtabklmkdneoaaaaDoor
open Go.RowKit

theorem rrec_neqF (a0 a1 a2 a3 a4 : Int) (W : World) : (binOp .neq 71 (.agg #[.int .i64 a0, .int .i64 a1, .int .i64 a2, .int .i64 a3, .int .i64 a4]) (.agg #[.int .i64 a0, .int .i64 a1, .int .i64 a2, .int .i64 a3, .int .i64 a4])).run Tryd.prog W = .ok (.bool false) W := by
  go_simp
theorem rrec_eqT (a0 a1 a2 a3 a4 : Int) (W : World) : (binOp .eql 71 (.agg #[.int .i64 a0, .int .i64 a1, .int .i64 a2, .int .i64 a3, .int .i64 a4]) (.agg #[.int .i64 a0, .int .i64 a1, .int .i64 a2, .int .i64 a3, .int .i64 a4])).run Tryd.prog W = .ok (.bool true) W := by
  go_simp
/-- The program's job, the document's. -/
structure SJ (b1 m1 b2 : Nat) (s : JobS) (w W : World) : Prop where
  l : JobAt b1 m1 s W
  r : XJ b2 s W
  bel : Below w.heap.size w W
theorem SJ.step {b1 m1 b2 : Nat} {s : JobS} {w W W' : World} (h : SJ b1 m1 b2 s w W) (hb : Below W.heap.size W W') : SJ b1 m1 b2 s w W' := ⟨h.l.below hb, h.r.below hb, h.bel.trans (hb.mono h.bel.size)⟩
theorem wf_i (n : Int) (h0 : -1 ≤ n) (h1 : n ≤ 17) : (Lit.int .i64 n).wf = true := WalkArith.wf_i64 (by omega)
theorem dAt_in {s : JobS} (h : JI s) {m : Int} (hm : (dAt s.d m).isSome = true) : ∃ n : Nat, m = n ∧ n < 16 := by
  rcases Int.lt_or_le m 0 with h1 | h1
  · rw [dAt_neg _ _ h1] at hm; exact Bool.noConfusion hm
  · obtain ⟨n, rfl⟩ := Int.eq_ofNat_of_zero_le h1
    refine ⟨n, rfl, ?_⟩
    rcases Nat.lt_or_ge n 16 with h2 | h2
    · exact h2
    · rw [dAt_far _ _ (by have := h.len; omega)] at hm; exact Bool.noConfusion hm
set_option maxRecDepth 100000 in
set_option maxHeartbeats 4000000 in
theorem same_any (b1 m1 b2 : Nat) (s : JobS) (w : World) (h1 : JobAt b1 m1 s w) (h2 : XJ b2 s w) (hi : JI s) : Calls Tryd.prog 46 #[.pointer (some ⟨b1, 0, none⟩), .pointer (some ⟨b2, 0, none⟩)] w fun e w' => e = .returned (.bool true) ∧ Below w.heap.size w w' := by
  have T0 := hid (show SJ b1 m1 b2 s w w from ⟨h1, h2, Below.refl _ _⟩)
  have HI := hid hi
  have hq := rrec_neqF
  have hq2 := rrec_eqT
  clear h1 h2 hi
  go_enter Tryd.func46, Tryd.ntmps46
  go_wp2_with fail
  go_loopg [5] 19 (fun k iv wr => ∃ (i : Nat) (m : Int), i + k = 19 ∧ iv = .int .i64 m ∧ m = (i : Int) - 1 ∧ SJ b1 m1 b2 s w wr)
  case atStart => exact ⟨0, -1, by omega, rfl, rfl, T0.out⟩
  case round =>
    obtain ⟨i, m, hik, rfl, hm, hT⟩ := hrel
    have T := hid hT
    by_cases hlt : i < 19
    · have d1 : decide (m < 18) = true := by simp; omega
      have HD := hid (fun W (hJ : JobAt b1 m1 s W) => done_any b1 m1 s m W hJ (wf_i m (by omega) (by omega)))
      have HH := hid (fun W (hJ : XJ b2 s W) => has_any b2 s m W hJ HI.out)
      have HP := hid (fun (r : RecS) W => plain_any r W)
      have HK := hid (And.intro hik (And.intro hlt hm))
      have hin : (dAt s.d m).isSome = true → ∃ n : Nat, m = n ∧ n < 16 := dAt_in HI.out
      have hnone : (dAt s.d m).isSome = false → (dAt s.d m).getD recZ = recZ := by
        intro h
        cases hd : dAt s.d m with
        | none => rfl
        | some r => rw [hd] at h; exact Bool.noConfusion h
      clear hT hik hlt hm
      rcases hqq : (dAt s.d m).isSome with _ | _
      · skip
        have hr := hnone hqq
        rw [hqq, hr] at HD
        rw [hqq] at HH
        have HPr := hid (HP.out recZ)
        unfold RecS.val recZ at HD HPr
        dsimp only at HD HPr
        clear hin hnone hqq hr HP
        go_wp2_with fail
        refine (HD.out _ (by exact T.out.l)).mono ?_
        rintro e w2 ⟨rfl, hb2⟩
        have hba : Below w2.heap.size w2 ((w2.alloc (.cells #[.int .i64 0, .int .i64 0, .int .i64 0, .int .i64 0, .int .i64 0] 73)).alloc (.cells #[.int .i64 0, .int .i64 0, .int .i64 0, .int .i64 0, .int .i64 0] 71)) := ((Below.refl _ _).alloc (Nat.le_refl _) _).alloc (by simp) _
        have T2 := hid (T.out.step hb2)
        have T0b := hid (T2.out.step hba)
        clear hb2 hba
        go_wp2_with fail
        refine (HH.out _ (by exact T0b.out.r)).mono ?_
        rintro e w4 ⟨rfl, rfl⟩
        go_wp2_with fail
        -- MARK1
        have hb3 : Below w2.heap.size w2 ((w2.alloc (.cells #[.int .i64 0, .int .i64 0, .int .i64 0, .int .i64 0, .int .i64 0] 73)).alloc (.cells #[.int .i64 0, .int .i64 0, .int .i64 0, .int .i64 0, .int .i64 0] 71)) := ((Below.refl _ _).alloc (Nat.le_refl _) _).alloc (by simp) _
        have T3 := hid (T2.out.step hb3)
        have PA := hid ((Blk.new w2 73 #[.int .i64 0, .int .i64 0, .int .i64 0, .int .i64 0, .int .i64 0]).below ((Below.refl _ _).alloc (Nat.le_refl _) (.cells #[.int .i64 0, .int .i64 0, .int .i64 0, .int .i64 0, .int .i64 0] 71)) (Blk.new w2 73 #[.int .i64 0, .int .i64 0, .int .i64 0, .int .i64 0, .int .i64 0]).lt)
        have PB := hid (blk_new_at (w := w2.alloc (.cells #[.int .i64 0, .int .i64 0, .int .i64 0, .int .i64 0, .int .i64 0] 73)) (n := w2.heap.size + 1) (by simp) 71 #[.int .i64 0, .int .i64 0, .int .i64 0, .int .i64 0, .int .i64 0])
        clear hb3
        obtain ⟨a0, a1, a2, a3, a4⟩ := blk5 PA.out
        obtain ⟨e0, e1, e2, e3, e4⟩ := blk5 PB.out
        go_region_held_law (fun W => W.cell? ⟨w2.heap.size, 0, none⟩ = some (.int .i64 0) ∧ W.cell? ⟨w2.heap.size, 1, none⟩ = some (.int .i64 0) ∧ W.cell? ⟨w2.heap.size, 2, none⟩ = some (.int .i64 0) ∧ W.cell? ⟨w2.heap.size, 3, none⟩ = some (.int .i64 0) ∧ W.cell? ⟨w2.heap.size, 4, none⟩ = some (.int .i64 0) ∧ W.cell? ⟨w2.heap.size + 1, 0, none⟩ = some (.int .i64 0) ∧ W.cell? ⟨w2.heap.size + 1, 1, none⟩ = some (.int .i64 0) ∧ W.cell? ⟨w2.heap.size + 1, 2, none⟩ = some (.int .i64 0) ∧ W.cell? ⟨w2.heap.size + 1, 3, none⟩ = some (.int .i64 0) ∧ W.cell? ⟨w2.heap.size + 1, 4, none⟩ = some (.int .i64 0))
          (first | exact K5.out | exact ⟨a0, a1, a2, a3, a4, e0, e1, e2, e3, e4⟩)
          (first
            | (go_at_call 43
               have hN := T3.out
               refine (HPr.out _).mono ?_
               rintro e w5 ⟨rfl, hb5⟩
               have T5 := hid (show SJ b1 m1 b2 s w w5 by first | exact hN.step hb5 | exact (hN.step (Below.refl _ _).drew).step hb5)
               have hA5 : Blk w5 w2.heap.size 73 #[.int .i64 0, .int .i64 0, .int .i64 0, .int .i64 0, .int .i64 0] := by first | exact PA.out.below hb5 PA.out.lt | exact (PA.out.below (Below.refl _ _).drew PA.out.lt).below hb5 PA.out.lt
               have hB5 : Blk w5 (w2.heap.size + 1) 71 #[.int .i64 0, .int .i64 0, .int .i64 0, .int .i64 0, .int .i64 0] := by first | exact PB.out.below hb5 PB.out.lt | exact (PB.out.below (Below.refl _ _).drew PB.out.lt).below hb5 PB.out.lt
               obtain ⟨c0, c1, c2, c3, c4⟩ := blk5 hA5
               obtain ⟨f0, f1, f2, f3, f4⟩ := blk5 hB5
               have K5 := hid (And.intro c0 (And.intro c1 (And.intro c2 (And.intro c3 (And.intro c4 (And.intro f0 (And.intro f1 (And.intro f2 (And.intro f3 f4)))))))))
               clear hb5 hA5 hB5 hN c0 c1 c2 c3 c4 f0 f1 f2 f3 f4)
            | (go_at_call 79
               refine (HH.out _ (by first | exact T3.out.r | exact (T3.out.step (Below.refl _ _).drew).r)).mono ?_
               rintro e w4 ⟨rfl, rfl⟩)
            | fail)
        all_goals
          go_wp2_with fail
          obtain ⟨hik, hlt, hm⟩ := HK.out
          go_roundg (gk - 1)
          case measure => omega
          case rel => exact ⟨i + 1, m + 1, by omega, by first | (congr 1; exact IntWalk.wrap64_in _ (by omega)) | go_num, by omega, by first | exact T5.out | exact T5.out.step (Below.refl _ _).drew⟩
        -- ENDMARK1
      · skip
        obtain ⟨n, rfl, hn⟩ := hin hqq
        have XR := hid (fun W (hJ : XJ b2 s W) => hJ.recs hn)
        rw [hqq] at HD HH
        generalize (dAt s.d (n : Int)).getD recZ = r at *
        obtain ⟨r0, r1, r2, r3, r4⟩ := r
        have HPr := hid (HP.out ⟨r0, r1, r2, r3, r4⟩)
        unfold RecS.val at HD HPr
        dsimp only at HD HPr XR
        have k0 : (0 : Int) ≤ (n : Int) := by omega
        have k1 : (n : Int) < 16 := by omega
        clear hin hnone hqq HP hn
        go_wp2_with fail
        refine (HD.out _ (by exact T.out.l)).mono ?_
        rintro e w2 ⟨rfl, hb2⟩
        have hba : Below w2.heap.size w2 ((w2.alloc (.cells #[.int .i64 r0, .int .i64 r1, .int .i64 r2, .int .i64 r3, .int .i64 r4] 73)).alloc (.cells #[.int .i64 0, .int .i64 0, .int .i64 0, .int .i64 0, .int .i64 0] 71)) := ((Below.refl _ _).alloc (Nat.le_refl _) _).alloc (by simp) _
        have T2 := hid (T.out.step hb2)
        have T0b := hid (T2.out.step hba)
        clear hb2 hba
        go_wp2_with fail
        refine (HH.out _ (by exact T0b.out.r)).mono ?_
        rintro e w4 ⟨rfl, rfl⟩
        obtain ⟨p0, p1, p2, p3, p4⟩ := XR.out _ T0b.out.r
        go_wp2_with fail
        -- MARK2
        have hb3 : Below w2.heap.size w2 ((w2.alloc (.cells #[.int .i64 r0, .int .i64 r1, .int .i64 r2, .int .i64 r3, .int .i64 r4] 73)).alloc (.cells #[.int .i64 r0, .int .i64 r1, .int .i64 r2, .int .i64 r3, .int .i64 r4] 71)) := ((Below.refl _ _).alloc (Nat.le_refl _) _).alloc (by simp) _
        have T3 := hid (T2.out.step hb3)
        have PA := hid ((Blk.new w2 73 #[.int .i64 r0, .int .i64 r1, .int .i64 r2, .int .i64 r3, .int .i64 r4]).below ((Below.refl _ _).alloc (Nat.le_refl _) (.cells #[.int .i64 r0, .int .i64 r1, .int .i64 r2, .int .i64 r3, .int .i64 r4] 71)) (Blk.new w2 73 #[.int .i64 r0, .int .i64 r1, .int .i64 r2, .int .i64 r3, .int .i64 r4]).lt)
        have PB := hid (blk_new_at (w := w2.alloc (.cells #[.int .i64 r0, .int .i64 r1, .int .i64 r2, .int .i64 r3, .int .i64 r4] 73)) (n := w2.heap.size + 1) (by simp) 71 #[.int .i64 r0, .int .i64 r1, .int .i64 r2, .int .i64 r3, .int .i64 r4])
        clear hb3
        obtain ⟨a0, a1, a2, a3, a4⟩ := blk5 PA.out
        obtain ⟨e0, e1, e2, e3, e4⟩ := blk5 PB.out
        go_region_held_law (fun W => W.cell? ⟨w2.heap.size, 0, none⟩ = some (.int .i64 r0) ∧ W.cell? ⟨w2.heap.size, 1, none⟩ = some (.int .i64 r1) ∧ W.cell? ⟨w2.heap.size, 2, none⟩ = some (.int .i64 r2) ∧ W.cell? ⟨w2.heap.size, 3, none⟩ = some (.int .i64 r3) ∧ W.cell? ⟨w2.heap.size, 4, none⟩ = some (.int .i64 r4) ∧ W.cell? ⟨w2.heap.size + 1, 0, none⟩ = some (.int .i64 r0) ∧ W.cell? ⟨w2.heap.size + 1, 1, none⟩ = some (.int .i64 r1) ∧ W.cell? ⟨w2.heap.size + 1, 2, none⟩ = some (.int .i64 r2) ∧ W.cell? ⟨w2.heap.size + 1, 3, none⟩ = some (.int .i64 r3) ∧ W.cell? ⟨w2.heap.size + 1, 4, none⟩ = some (.int .i64 r4))
          (first | exact K5.out | exact ⟨a0, a1, a2, a3, a4, e0, e1, e2, e3, e4⟩)
          (first
            | (go_at_call 43
               have hN := T3.out
               refine (HPr.out _).mono ?_
               rintro e w5 ⟨rfl, hb5⟩
               have T5 := hid (show SJ b1 m1 b2 s w w5 by first | exact hN.step hb5 | exact (hN.step (Below.refl _ _).drew).step hb5)
               have hA5 : Blk w5 w2.heap.size 73 #[.int .i64 r0, .int .i64 r1, .int .i64 r2, .int .i64 r3, .int .i64 r4] := by first | exact PA.out.below hb5 PA.out.lt | exact (PA.out.below (Below.refl _ _).drew PA.out.lt).below hb5 PA.out.lt
               have hB5 : Blk w5 (w2.heap.size + 1) 71 #[.int .i64 r0, .int .i64 r1, .int .i64 r2, .int .i64 r3, .int .i64 r4] := by first | exact PB.out.below hb5 PB.out.lt | exact (PB.out.below (Below.refl _ _).drew PB.out.lt).below hb5 PB.out.lt
               obtain ⟨c0, c1, c2, c3, c4⟩ := blk5 hA5
               obtain ⟨f0, f1, f2, f3, f4⟩ := blk5 hB5
               have K5 := hid (And.intro c0 (And.intro c1 (And.intro c2 (And.intro c3 (And.intro c4 (And.intro f0 (And.intro f1 (And.intro f2 (And.intro f3 f4)))))))))
               clear hb5 hA5 hB5 hN c0 c1 c2 c3 c4 f0 f1 f2 f3 f4)
            | (go_at_call 79
               refine (HH.out _ (by first | exact T3.out.r | exact (T3.out.step (Below.refl _ _).drew).r)).mono ?_
               rintro e w4 ⟨rfl, rfl⟩)
            | fail)
        all_goals
          go_wp2_with fail
          obtain ⟨hik, hlt, hm⟩ := HK.out
          go_roundg (gk - 1)
          case measure => omega
          case rel => exact ⟨i + 1, (n : Int) + 1, by omega, by first | (congr 1; exact IntWalk.wrap64_in _ (by omega)) | go_num, by omega, by first | exact T5.out | exact T5.out.step (Below.refl _ _).drew⟩
        -- ENDMARK2
    · obtain rfl : i = 19 := by omega
      obtain rfl : m = 18 := by omega
      have HE := hid (fun W (hJ : JobAt b1 m1 s W) => end_any b1 m1 s W hJ)
      have HS := hid (fun W (hJ : JobAt b1 m1 s W) => state_any b1 m1 s W hJ)
      have HSu := hid (fun W (hJ : JobAt b1 m1 s W) => jsum_any b1 m1 s W hJ)
      have HC := hid (fun W (hJ : JobAt b1 m1 s W) => chunks_any b1 m1 s W hJ)
      have HCo := hid (fun W (hJ : JobAt b1 m1 s W) => jcode_any b1 m1 s W hJ)
      have HMi := hid (fun W (hJ : JobAt b1 m1 s W) => missing_any b1 m1 s W hJ HI.out)
      have HMr := hid (fun W (hJ : XJ b2 s W) => rmissing_any b2 s W hJ HI.out)
      have hml := missTo_len s s.ch.toNat
      have hch := HI.out.ch1
      have ML := hid (show (missTo s s.ch.toNat).length ≤ 16 by omega)
      have HP := hid (fun W => plain_any s.e W)
      have XE := hid (fun W (hJ : XJ b2 s W) => And.intro hJ.cells hJ.ends)
      unfold MissRes at HMi HMr
      generalize missTo s s.ch.toNat = ml at *
      have hq3 : (s.st == 3) = true ∨ (s.st == 3) = false := by cases (s.st == 3) <;> simp
      generalize hee : s.e = ee at *
      obtain ⟨r0, r1, r2, r3, r4⟩ := ee
      unfold RecS.val at HE HP
      dsimp only at HE HP XE
      clear hee hml hch hT
      go_wp2_with fail
      refine (HE.out _ (by exact T.out.l)).mono ?_
      rintro e w2 ⟨rfl, hb2⟩
      have hba : Below w2.heap.size w2 (w2.alloc (.cells #[.int .i64 r0, .int .i64 r1, .int .i64 r2, .int .i64 r3, .int .i64 r4] 73)) := (Below.refl _ _).alloc (Nat.le_refl _) _
      have T3 := hid ((T.out.step hb2).step hba)
      have P3 := hid (Blk.new w2 73 #[.int .i64 r0, .int .i64 r1, .int .i64 r2, .int .i64 r3, .int .i64 r4])
      obtain ⟨⟨x0, x1, x2, x3⟩, x4, x5, x6, x7, x8⟩ := XE.out _ T3.out.r
      obtain ⟨y0, y1, y2, y3, y4⟩ := blk5 P3.out
      clear hb2 hba
      go_wp2_with fail
      -- MARK3
      go_region_held_law (fun W => W.cell? ⟨b2, 0, none⟩ = some (.int .i64 s.st) ∧ W.cell? ⟨b2, 1, none⟩ = some (.int .i64 s.sm) ∧ W.cell? ⟨b2, 2, none⟩ = some (.int .i64 s.ch) ∧ W.cell? ⟨b2, 3, none⟩ = some (.int .i64 s.cd) ∧ W.cell? ⟨b2, 100, none⟩ = some (.int .i64 r0) ∧ W.cell? ⟨b2, 101, none⟩ = some (.int .i64 r1) ∧ W.cell? ⟨b2, 102, none⟩ = some (.int .i64 r2) ∧ W.cell? ⟨b2, 103, none⟩ = some (.int .i64 r3) ∧ W.cell? ⟨b2, 104, none⟩ = some (.int .i64 r4) ∧ W.cell? ⟨w2.heap.size, 0, none⟩ = some (.int .i64 r0) ∧ W.cell? ⟨w2.heap.size, 1, none⟩ = some (.int .i64 r1) ∧ W.cell? ⟨w2.heap.size, 2, none⟩ = some (.int .i64 r2) ∧ W.cell? ⟨w2.heap.size, 3, none⟩ = some (.int .i64 r3) ∧ W.cell? ⟨w2.heap.size, 4, none⟩ = some (.int .i64 r4))
        (first | exact K8.out | exact K7.out | exact K6.out | exact K5.out | exact ⟨x0, x1, x2, x3, x4, x5, x6, x7, x8, y0, y1, y2, y3, y4⟩)
        (first
          | (go_at_call 43
             have hN := T7.out
             have hP := P7.out
             refine (HP.out _).mono ?_
             rintro e w8 ⟨rfl, hb⟩
             have T8 := hid (show SJ b1 m1 b2 s w w8 by first | exact hN.step hb | exact (hN.step (Below.refl _ _).drew).step hb)
             have P8 := hid (show Blk w8 w2.heap.size 73 #[.int .i64 r0, .int .i64 r1, .int .i64 r2, .int .i64 r3, .int .i64 r4] by first | exact hP.below hb hP.lt | exact (hP.below (Below.refl _ _).drew hP.lt).below hb hP.lt)
             obtain ⟨⟨f0, f1, f2, f3⟩, f4, f5, f6, f7, f8⟩ := XE.out _ T8.out.r
             obtain ⟨g0, g1, g2, g3, g4⟩ := blk5 P8.out
             have K8 := hid (And.intro f0 (And.intro f1 (And.intro f2 (And.intro f3 (And.intro f4 (And.intro f5 (And.intro f6 (And.intro f7 (And.intro f8 (And.intro g0 (And.intro g1 (And.intro g2 (And.intro g3 g4)))))))))))))
             clear hb hN hP f0 f1 f2 f3 f4 f5 f6 f7 f8 g0 g1 g2 g3 g4)
          | (go_at_call 77
             have hN := T6.out
             have hP := P6.out
             refine (ints_same _ _ _ _ (by exact N6.out.1) (by exact N6.out.2) (by have := ML.out; simp; omega)).mono ?_
             rintro e w7 ⟨rfl, hb⟩
             have T7 := hid (show SJ b1 m1 b2 s w w7 by first | exact hN.step hb | exact (hN.step (Below.refl _ _).drew).step hb)
             have P7 := hid (show Blk w7 w2.heap.size 73 #[.int .i64 r0, .int .i64 r1, .int .i64 r2, .int .i64 r3, .int .i64 r4] by first | exact hP.below hb hP.lt | exact (hP.below (Below.refl _ _).drew hP.lt).below hb hP.lt)
             obtain ⟨⟨f0, f1, f2, f3⟩, f4, f5, f6, f7, f8⟩ := XE.out _ T7.out.r
             obtain ⟨g0, g1, g2, g3, g4⟩ := blk5 P7.out
             have K7 := hid (And.intro f0 (And.intro f1 (And.intro f2 (And.intro f3 (And.intro f4 (And.intro f5 (And.intro f6 (And.intro f7 (And.intro f8 (And.intro g0 (And.intro g1 (And.intro g2 (And.intro g3 g4)))))))))))))
             clear hb hN hP f0 f1 f2 f3 f4 f5 f6 f7 f8 g0 g1 g2 g3 g4)
          | (go_at_call 83
             have hN := T5.out
             have hP := P5.out
             refine (HMr.out _ (by exact hN.r)).mono ?_
             rintro e w6 ⟨mv, rfl, ho, hb⟩
             have T6 := hid (show SJ b1 m1 b2 s w w6 by first | exact hN.step hb | exact (hN.step (Below.refl _ _).drew).step hb)
             have P6 := hid (show Blk w6 w2.heap.size 73 #[.int .i64 r0, .int .i64 r1, .int .i64 r2, .int .i64 r3, .int .i64 r4] by first | exact hP.below hb hP.lt | exact (hP.below (Below.refl _ _).drew hP.lt).below hb hP.lt)
             have N6 := hid (And.intro (N5.out.below hb) (nums_of_miss ho)); clear ho
             obtain ⟨⟨f0, f1, f2, f3⟩, f4, f5, f6, f7, f8⟩ := XE.out _ T6.out.r
             obtain ⟨g0, g1, g2, g3, g4⟩ := blk5 P6.out
             have K6 := hid (And.intro f0 (And.intro f1 (And.intro f2 (And.intro f3 (And.intro f4 (And.intro f5 (And.intro f6 (And.intro f7 (And.intro f8 (And.intro g0 (And.intro g1 (And.intro g2 (And.intro g3 g4)))))))))))))
             clear hb hN hP f0 f1 f2 f3 f4 f5 f6 f7 f8 g0 g1 g2 g3 g4)
          | (go_at_call 52
             have hN := T3.out
             have hP := P3.out
             refine (HMi.out _ (by first | exact hN.l | exact (hN.step (Below.refl _ _).drew).l)).mono ?_
             rintro e w5 ⟨lv, rfl, ho, hb⟩
             have T5 := hid (show SJ b1 m1 b2 s w w5 by first | exact hN.step hb | exact (hN.step (Below.refl _ _).drew).step hb)
             have P5 := hid (show Blk w5 w2.heap.size 73 #[.int .i64 r0, .int .i64 r1, .int .i64 r2, .int .i64 r3, .int .i64 r4] by first | exact hP.below hb hP.lt | exact (hP.below (Below.refl _ _).drew hP.lt).below hb hP.lt)
             have N5 := hid (nums_of_miss ho); clear ho
             obtain ⟨⟨f0, f1, f2, f3⟩, f4, f5, f6, f7, f8⟩ := XE.out _ T5.out.r
             obtain ⟨g0, g1, g2, g3, g4⟩ := blk5 P5.out
             have K5 := hid (And.intro f0 (And.intro f1 (And.intro f2 (And.intro f3 (And.intro f4 (And.intro f5 (And.intro f6 (And.intro f7 (And.intro f8 (And.intro g0 (And.intro g1 (And.intro g2 (And.intro g3 g4)))))))))))))
             clear hb hN hP f0 f1 f2 f3 f4 f5 f6 f7 f8 g0 g1 g2 g3 g4)
          | (go_at_call 53
             refine (HS.out _ (by first | exact T3.out.l | exact (T3.out.step (Below.refl _ _).drew).l)).mono ?_
             rintro e w4 ⟨rfl, rfl⟩)
          | (go_at_call 78
             refine (HSu.out _ (by first | exact T3.out.l | exact (T3.out.step (Below.refl _ _).drew).l)).mono ?_
             rintro e w4 ⟨rfl, rfl⟩)
          | (go_at_call 81
             refine (HC.out _ (by first | exact T3.out.l | exact (T3.out.step (Below.refl _ _).drew).l)).mono ?_
             rintro e w4 ⟨rfl, rfl⟩)
          | (go_at_call 82
             refine (HCo.out _ (by first | exact T3.out.l | exact (T3.out.step (Below.refl _ _).drew).l)).mono ?_
             rintro e w4 ⟨rfl, rfl⟩)
          | fail)
      all_goals
        go_wp2_with fail
        go_ret
        exact ⟨rfl, by first | exact T8.out.bel | exact (T8.out.step (Below.refl _ _).drew).bel⟩
      -- ENDMARK3
end Go.Proofs.YtabklmkdneoaaaaDoor
