/- kinref4.Next: the walk where there is a unit. -/
import Derived.Test.YtabklmkdneoaaaaDoorURNext2
namespace Go.Proofs.YtabklmkdneoaaaaDoor
open Go.RowKit

def ROkUnit (u : UnitS) (w : World) (e : Ending) (w' : World) : Prop :=
  ∃ g cap, e = .returned (.tuple #[.agg #[.int .i64 u.kind, .slice (some ⟨g, 0, none⟩) u.data.length cap, .int .i64 u.at_, .int .i64 u.end_], .agg #[.int .i64 0, .slice none 0 0]]) ∧ w'.ownsRow w.heap.size 5 1 (.slice (some ⟨g, 0, none⟩) u.data.length cap) u.data.length (u.data.map byteV) ∧ Below w.heap.size w w'
set_option maxRecDepth 100000 in
set_option maxHeartbeats 2000000 in
theorem rnext_ok (x : Value) (bs r r' : List UInt8) (k : Nat) (u x1 x2 x3 y0 y1 y2 y3 : UInt8) (w : World) (hx : Byt w x bs) (hk : k < bs.length) (hr : bs.drop k = u :: x1 :: x2 :: x3 :: r) (h0 : u ≠ 0) (_ : bs.length ≤ 1000000) (hn : be [x1, x2, x3] ≤ 65536) (hs : r.drop (be [x1, x2, x3]) = y0 :: y1 :: y2 :: y3 :: r') (hq : be [y0, y1, y2, y3] = sumOf (u :: x1 :: x2 :: x3 :: r.take (be [x1, x2, x3]))) :
    Calls Tryd.prog 28 #[x, .int .i64 k] w (ROkUnit ⟨u.toNat, r.take (be [x1, x2, x3]), k, k + be [x1, x2, x3] + 8⟩ w) := by
  obtain ⟨A, c, rfl, hc⟩ := hx.form
  obtain ⟨b, off, rfl, hb, hd⟩ := hx.drop hk
  have hm : bs.length - k = r.length + 4 := by rw [← List.length_drop, hr]; rfl
  rw [hr] at hd
  have hu : bs[k]? = some u := by
    have := congrArg (·[0]?) hr
    simpa using this
  have hne : ¬ (c = k) := by omega
  have k0 : (0 : Int) ≤ (k : Int) := by omega
  have k1 : (k : Int) < (bs.length : Int) := by omega
  have t1 : decide ((k : Int) < 0) = false := by simp
  have t2 : decide ((bs.length : Int) ≤ (k : Int)) = false := by simp; omega
  have t3 : decide (((bs.length - k : Nat) : Int) < 4) = false := by simp; omega
  have c0 := hx.cell k u hu
  have e4 : bs.length - k = (u :: x1 :: x2 :: x3 :: r).length := by rw [hm]; rfl
  have hd' := hd
  rw [e4] at hd'
  have c1 : w.cell? ⟨b, off + k + 1, none⟩ = some (.int .u8 x1.toNat) := hd'.cell 1 x1 rfl
  have c2 : w.cell? ⟨b, off + k + 2, none⟩ = some (.int .u8 x2.toNat) := hd'.cell 2 x2 rfl
  have c3 : w.cell? ⟨b, off + k + 3, none⟩ = some (.int .u8 x3.toNat) := hd'.cell 3 x3 rfl
  have hu0 : ((u.toNat : Int) == 0) = false := by
    simp
    intro h
    exact h0 (UInt8.toNat_inj.1 h)
  have i1 : (1 : Int) < ((bs.length - k : Nat) : Int) := by omega
  have i2 : (2 : Int) < ((bs.length - k : Nat) : Int) := by omega
  have i3 : (3 : Int) < ((bs.length - k : Nat) : Int) := by omega
  have R0 := hid (RB.new w)
  have hV : Byt w (.slice (some ⟨b, off + k + 1, none⟩) 3 (c - k - 1)) [x1, x2, x3] := by
    have h1 := hd'.dropAt (k := 1) (by simp)
    have h2 : Byt w (.slice (some ⟨b, off + k + 1, none⟩) (x1 :: x2 :: x3 :: r).length (c - k - 1)) (x1 :: x2 :: x3 :: r) := h1
    exact h2.take (k := 3) (by simp)
  have HV := hid hV
  clear hV
  generalize hN : be [x1, x2, x3] = N at *
  have HN := hid hN
  have XD := hid (And.intro hr (And.intro hd' (And.intro hx (And.intro e4 h0))))
  have M := hid hm
  clear hx hd hd' hu h0 hr hN e4 hm
  have hlen : N + 4 ≤ r.length := by have := congrArg List.length hs; simp at this; omega
  have t4 : decide (65536 < (N : Int)) = false := by simp; omega
  have t5 : decide (((bs.length - k : Nat) : Int) < (N : Int) + 8) = false := by have := M.out; simp; omega
  have e6 : (8 : Int) + (N : Int) ≤ ((c - k : Nat) : Int) := by have := M.out; omega
  have e7 : 8 + N - (4 + N) = 4 := by omega
  have j5 : (4 : Int) + (N : Int) ≤ ((c - k : Nat) : Int) := by omega
  have htk : (u :: x1 :: x2 :: x3 :: r).take (4 + N) = u :: x1 :: x2 :: x3 :: r.take N := by rw [Nat.add_comm]; rfl
  have hD : Byt w (.slice (some ⟨b, off + k, none⟩) (u :: x1 :: x2 :: x3 :: r).length (c - k)) (u :: x1 :: x2 :: x3 :: r) := XD.out.2.1
  have hSB := hD.take (k := 4 + N) (by simp; omega)
  rw [htk] at hSB
  have hYB : Byt w (.slice (some ⟨b, off + k + (4 + N), none⟩) 4 (c - k - (4 + N))) [y0, y1, y2, y3] := by
    have h1 := hD.dropAt (k := 4 + N) (by simp; omega)
    have e3 : (u :: x1 :: x2 :: x3 :: r).drop (4 + N) = y0 :: y1 :: y2 :: y3 :: r' := by rw [Nat.add_comm, ← hs]; rfl
    have e4 : (u :: x1 :: x2 :: x3 :: r).length - (4 + N) = (y0 :: y1 :: y2 :: y3 :: r').length := by rw [← e3, List.length_drop]
    rw [e3, e4] at h1
    exact h1.take (k := 4) (by simp)
  have SB : Hid (∀ W, Below w.heap.size w W → Byt W (.slice (some ⟨b, off + k, none⟩) (4 + N) (c - k)) (u :: x1 :: x2 :: x3 :: r.take N)) := fun W hW => hSB.below hW
  have YB : Hid (∀ W, Below w.heap.size w W → Byt W (.slice (some ⟨b, off + k + (4 + N), none⟩) 4 (c - k - (4 + N))) [y0, y1, y2, y3]) := fun W hW => hYB.below hW
  have j4 : (4 : Int) ≤ 4 + (N : Int) := by omega
  have j6 : ¬ (c - k = 4) := by omega
  have j7 : 4 + N - 4 = N := by omega
  have hDT : Byt w (.slice (some ⟨b, off + k + 4, none⟩) N (c - k - 4)) (r.take N) := by
    have h2 := hD.dropAt (k := 4) (by simp; omega)
    have h3 : Byt w (.slice (some ⟨b, off + k + 4, none⟩) r.length (c - k - 4)) r := by
      have e3 : (u :: x1 :: x2 :: x3 :: r).length - 4 = r.length := by simp
      rw [e3] at h2
      exact h2
    exact h3.take (k := N) (by omega)
  have DT := hid hDT
  have SL := hid (show (u :: x1 :: x2 :: x3 :: r.take N).length ≤ 1000000000 by simp; omega)
  have hcv : IntKind.i64.wrap (sumOf (u :: x1 :: x2 :: x3 :: r.take N) : Int) = (sumOf (u :: x1 :: x2 :: x3 :: r.take N) : Int) := IntWalk.i64_in _ (by have := sumOf_lt (u :: x1 :: x2 :: x3 :: r.take N); omega)
  have t6 : ((be [y0, y1, y2, y3] : Int) != (sumOf (u :: x1 :: x2 :: x3 :: r.take N) : Int)) = false := by rw [hq]; simp
  clear hq
  have HY := hid (And.intro hs hlen)
  clear hs hlen hSB hD htk hYB hDT
  go_enter Tryd.func28, Tryd.ntmps28
  go_wp2_with fail
  refine (uvalue_any _ [x1, x2, x3] _ (by exact HV.out.below R0.out.bel) (by simp)).mono ?_
  rintro e w9 ⟨rfl, rfl⟩
  rw [HN.out]
  go_wp2_with fail
  go_quiet ((first
    | (go_at_call 73; exact quiet_left4 (uvalue_any _ [y0, y1, y2, y3] _ (by exact YB.out _ (R0.out.drewN _).bel) (by simp)))
    | (go_at_call 35; exact quiet_left4 (rsum_any _ (u :: x1 :: x2 :: x3 :: r.take N) _ (by exact SB.out _ (R0.out.drewN _).bel) SL.out))))
  go_wp2_with fail
  refine wp_named (RB w) (R0.out.drewN _) ?_
  intro W RW
  have b0 := (RW.bel.cell (p := ⟨b, off + k, none⟩) hb).trans c0
  have hbw : b < W.heap.size := by have := RW.bel.size; omega
  have SK : Hid (∀ W2, Below W.heap.size W W2 → RB w W2 ∧ W2.cell? ⟨b, off + k, none⟩ = some (.int .u8 u.toNat)) := fun W2 h => ⟨RW.step h, (h.cell (p := ⟨b, off + k, none⟩) hbw).trans b0⟩
  have DTW : Hid (∀ W2, Below W.heap.size W W2 → From W2 1 (.slice (some ⟨b, off + k + 4, none⟩) N (c - k - 4)) (r.take N).length ((r.take N).map byteV)) := fun W2 h => ((DT.out.below RW.bel).below h).from_
  have RWH := hid RW
  clear RW
  have hnz : ¬ (bs.length - k = 0) := by have := M.out; omega
  have htn : (4 + (N : Int)).toNat = 4 + N := by omega
  have HBN : Hid (¬ (b = w.heap.size ∨ b = w.heap.size + 1)) := by show ¬ (b = _ ∨ b = _); omega
  have HLN : Hid ((r.take N).length = N) := by show (r.take N).length = N; rw [List.length_take]; have := HY.out.2; omega
  have HLM : Hid ((r.take N).length ≤ 1000000000000) := by have := HLN.out; show (r.take N).length ≤ _; omega
  have hw4 : IntKind.i64.wrap (4 + (N : Int)) = 4 + (N : Int) := IntWalk.i64_in _ (by omega)
  have hw5 : IntKind.i64.wrap ((k : Int) + (N : Int)) = (k : Int) + (N : Int) := IntWalk.i64_in _ (by omega)
  have hw6 : IntKind.i64.wrap ((k : Int) + (N : Int) + 8) = (k : Int) + (N : Int) + 8 := IntWalk.i64_in _ (by omega)
  have hw7 : IntKind.i64.wrap (u.toNat : Int) = (u.toNat : Int) := IntWalk.i64_in _ (by have := u.toNat_lt; omega)
  have hix : ∀ W2 : World, (Instr.indexAt 23 (.slice (some ⟨b, off + k, none⟩) (bs.length - k) (c - k)) (.int .i64 0)).run Tryd.prog W2 = .ok (.pointer (some ⟨b, off + k, none⟩)) W2 := by
    intro W2
    go_simp
  have hsl : ∀ W2 : World, (Instr.sliceAt 23 (.slice (some ⟨b, off + k, none⟩) (bs.length - k) (c - k)) (some (.int .i64 4)) (some (.int .i64 (4 + (N : Int)))) none).run Tryd.prog W2 = .ok (.slice (some ⟨b, off + k + 4, none⟩) N (c - k - 4)) W2 := by
    intro W2
    go_simp
  go_region_held3 (fun W2 => W2.cell? ⟨b, off + k, none⟩ = some (.int .u8 u.toNat))
    (first
      | exact sk.out _ (by repeat (first | (with_reducible refine Only.put ?_ (by first | exact .inl rfl | exact .inr rfl) _ _) | (with_reducible refine Only.drew ?_) | (with_reducible exact Only.refl _ _)))
      | exact b0)
    (first
      | (go_at_call 31
         (with_reducible refine (copy_bytes _ (r.take N) _ (by first | exact DTW.out _ (Below.refl _ _) | exact DTW.out _ (Below.refl _ _).drew) HLM.out).mono ?_)
         rintro e w3 ⟨g, cap, rfl, hown, hb3⟩
         rw [HLN.out] at hown
         rw [HLN.out]
         have hb4 : Below W.heap.size W w3 := by first | exact hb3 | exact ⟨hb3.os, hb3.tape, hb3.output, hb3.size, hb3.block⟩
         obtain ⟨qR, q0⟩ := SK.out _ hb4
         obtain ⟨r0, r1, r2, r3, r4, r5⟩ := qR.cells
         obtain ⟨f0, f1, f2, f3, f4, f5⟩ := qR.frozen
         have sk : Hid (∀ W3, Only (fun k => k = w.heap.size ∨ k = w.heap.size + 1) w3 W3 → W3.cell? ⟨b, off + k, none⟩ = some (.int .u8 u.toNat)) := fun W3 hOn => (hOn.cell (p := ⟨b, off + k, none⟩) (Nat.lt_of_lt_of_le hbw hb4.size) HBN.out).trans q0
         have hown1 : w3.ownsRow W.heap.size 5 1 (.slice (some ⟨g, 0, none⟩) N cap) N ((r.take N).map byteV) := hown
         have O3 := hid (And.intro hown1 (And.intro hb4 qR))
         clear hown1
         clear hown hb3 hb4 qR))
  all_goals
    have KK := hid (O3.out.2.2.laid_cells (.int .i64 u.toNat) (.slice (some ⟨g, 0, none⟩) N cap) (.int .i64 k) (.int .i64 (k + N + 8)) (.int .i64 0) (.slice none 0 0))
    clear hw4 hw5 hw6 hw7 hix hsl
    go_wp2_with fail
    obtain ⟨h0, h1, h2, h3, h4, h5⟩ := KK.out
    have hOn := laid6_only w w3 (.int .i64 u.toNat) (.slice (some ⟨g, 0, none⟩) N cap) (.int .i64 k) (.int .i64 (k + N + 8)) (.int .i64 0) (.slice none 0 0)
    have hown := own_far1 O3.out.1 hOn (fun k hk e => by have := (O3.out.1.lt k hk).1; have := RWH.out.er.lt; omega)
    have he : Ending.returned (.tuple #[.agg #[.int .i64 u.toNat, .slice (some ⟨g, 0, none⟩) N cap, .int .i64 k, .int .i64 (k + N + 8)], .agg #[.int .i64 0, .slice none 0 0]]) = Ending.returned (.tuple #[.agg #[.int .i64 u.toNat, .slice (some ⟨g, 0, none⟩) (r.take N).length cap, .int .i64 k, .int .i64 (k + N + 8 : Nat)], .agg #[.int .i64 0, .slice none 0 0]]) := by
      rw [HLN.out]
      rfl
    refine bodyPost_ret (v := .tuple #[.agg #[.int .i64 u.toNat, .slice (some ⟨g, 0, none⟩) N cap, .int .i64 k, .int .i64 (k + N + 8)], .agg #[.int .i64 0, .slice none 0 0]]) (by simp [results, Tryd.results28, go_sem, h0, h1, h2, h3, h4, h5]) rfl ⟨g, cap, he, ?_, O3.out.2.2.laid_bel (.int .i64 u.toNat) (.slice (some ⟨g, 0, none⟩) N cap) (.int .i64 k) (.int .i64 (k + N + 8)) (.int .i64 0) (.slice none 0 0)⟩
    show World.ownsRow _ _ _ _ (.slice (some ⟨g, 0, none⟩) (r.take N).length cap) (r.take N).length ((r.take N).map byteV)
    rw [HLN.out]
    exact own_more hown (by have := RWH.out.bel.size; omega)
end Go.Proofs.YtabklmkdneoaaaaDoor
