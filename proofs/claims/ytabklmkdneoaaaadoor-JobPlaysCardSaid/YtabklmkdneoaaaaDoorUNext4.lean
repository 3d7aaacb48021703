/- unit.Next: the walk where there is a unit. -/
import Derived.Test.YtabklmkdneoaaaaDoorUNext3
import Derived.Test.YtabklmkdneoaaaaDoorURMake
namespace Go.Proofs.YtabklmkdneoaaaaDoor
open Go.RowKit

def OkUnit (u : UnitS) (w : World) (e : Ending) (w' : World) : Prop :=
  ∃ g cap, e = .returned (.tuple #[.agg #[.int .i64 u.kind, .slice (some ⟨g, 0, none⟩) u.data.length cap, .int .i64 u.at_, .int .i64 u.end_], .nilIface]) ∧ w'.ownsRow w.heap.size 5 1 (.slice (some ⟨g, 0, none⟩) u.data.length cap) u.data.length (u.data.map byteV) ∧ Below w.heap.size w w'
set_option maxRecDepth 100000 in
set_option maxHeartbeats 6000000 in
theorem next_ok (x : Value) (bs r r' : List UInt8) (k : Nat) (u x1 x2 x3 y0 y1 y2 y3 : UInt8) (w : World) (hx : Byt w x bs) (hk : k < bs.length) (hr : bs.drop k = u :: x1 :: x2 :: x3 :: r) (h0 : u ≠ 0) (hl : bs.length ≤ 1000000) (hn : be [x1, x2, x3] ≤ 65536) (hs : r.drop (be [x1, x2, x3]) = y0 :: y1 :: y2 :: y3 :: r') (hq : be [y0, y1, y2, y3] = sumOf (u :: x1 :: x2 :: x3 :: r.take (be [x1, x2, x3]))) :
    Calls Tryd.prog 25 #[x, .int .i64 k] w (OkUnit ⟨u.toNat, r.take (be [x1, x2, x3]), k, k + be [x1, x2, x3] + 8⟩ w) := by
  obtain ⟨i0, hi0, hz0, hz1, hz2⟩ := info_parts info_u8
  have IP := hid (And.intro hi0 (And.intro hz0 (And.intro hz1 hz2)))
  clear hi0 hz0 hz1 hz2
  obtain ⟨A, c, rfl, hc⟩ := hx.form
  obtain ⟨b, off, rfl, hb, hd⟩ := hx.drop hk
  have hm : bs.length - k = r.length + 4 := by rw [← List.length_drop, hr]; rfl
  rw [hr] at hd
  have hu : bs[k]? = some u := by
    have := congrArg (·[0]?) hr
    simpa using this
  have hne : ¬ (c = k) := by omega
  have k0 : (0 : Int) ≤ (k : Int) := by omega
  have k1 : (k : Int) < (bs.length : Int) := by omega
  have t1 : decide ((k : Int) < 0) = false := by simp
  have t2 : decide ((bs.length : Int) ≤ (k : Int)) = false := by simp; omega
  have t3 : decide (((bs.length - k : Nat) : Int) < 4) = false := by simp; omega
  have c0 := hx.cell k u hu
  have e4 : bs.length - k = (u :: x1 :: x2 :: x3 :: r).length := by rw [hm]; rfl
  have hd' := hd
  rw [e4] at hd'
  have c1 : w.cell? ⟨b, off + k + 1, none⟩ = some (.int .u8 x1.toNat) := hd'.cell 1 x1 rfl
  have c2 : w.cell? ⟨b, off + k + 2, none⟩ = some (.int .u8 x2.toNat) := hd'.cell 2 x2 rfl
  have c3 : w.cell? ⟨b, off + k + 3, none⟩ = some (.int .u8 x3.toNat) := hd'.cell 3 x3 rfl
  have hu0 : ((u.toNat : Int) == 0) = false := by
    simp
    intro h
    exact h0 (UInt8.toNat_inj.1 h)
  have hmf : ∀ (fn : Fn) (first cap : Array Value) (w : World), (Instr.makeFunc fn first cap).run Tryd.prog w = .ok (.func fn first cap) w := fun _ _ _ _ => rfl
  have i1 : (1 : Int) < ((bs.length - k : Nat) : Int) := by omega
  have i2 : (2 : Int) < ((bs.length - k : Nat) : Int) := by omega
  have i3 : (3 : Int) < ((bs.length - k : Nat) : Int) := by omega
  have l1 := x1.toNat_lt
  have l2 := x2.toNat_lt
  have l3 := x3.toNat_lt
  have s1 : IntKind.i64.wrap ((x1.toNat : Int) * 65536) = (x1.toNat : Int) * 65536 := IntWalk.i64_in _ (by omega)
  have s2 : IntKind.i64.wrap ((x2.toNat : Int) * 256) = (x2.toNat : Int) * 256 := IntWalk.i64_in _ (by omega)
  have o1 := or_16_8 x1 x2
  have o2 := or_24_0 x1 x2 x3
  have N0 := hid (NB.new w k)
  generalize hN : be [x1, x2, x3] = N at *
  have HN := hid hN
  have XD := hid (And.intro hr (And.intro hd' (And.intro hx (And.intro e4 h0))))
  have M := hid hm
  clear hx hd hd' hu h0 hr hN e4 hm
  have t4 : decide (65536 < (N : Int)) = false := by simp; omega
  have hlen : N + 4 ≤ r.length := by have := congrArg List.length hs; simp at this; omega
  have t5 : decide (((bs.length - k : Nat) : Int) - 8 < (N : Int)) = false := by have := M.out; simp; omega
  have e6 : (8 : Int) + (N : Int) ≤ ((c - k : Nat) : Int) := by have := M.out; omega
  have e7 : 8 + N - (4 + N) = 4 := by omega
  have j0 : (0 : Int) < ((bs.length - k : Nat) : Int) := by have := M.out; omega
  have j4 : (4 : Int) ≤ 4 + (N : Int) := by omega
  have j5 : (4 : Int) + (N : Int) ≤ ((c - k : Nat) : Int) := by omega
  have j6 : ¬ (c - k = 4) := by omega
  have j7 : 4 + N - 4 = N := by omega
  have htk : (u :: x1 :: x2 :: x3 :: r).take (4 + N) = u :: x1 :: x2 :: x3 :: r.take N := by rw [Nat.add_comm]; rfl
  have hD : Byt w (.slice (some ⟨b, off + k, none⟩) (u :: x1 :: x2 :: x3 :: r).length (c - k)) (u :: x1 :: x2 :: x3 :: r) := XD.out.2.1
  have hSB := hD.take (k := 4 + N) (by simp; omega)
  rw [htk] at hSB
  have hDT : Byt w (.slice (some ⟨b, off + k + 4, none⟩) N (c - k - 4)) (r.take N) := by
    have h2 := hD.dropAt (k := 4) (by simp; omega)
    have h3 : Byt w (.slice (some ⟨b, off + k + 4, none⟩) r.length (c - k - 4)) r := by
      have e3 : (u :: x1 :: x2 :: x3 :: r).length - 4 = r.length := by simp
      rw [e3] at h2
      exact h2
    exact h3.take (k := N) (by omega)
  have hy : ∀ i y, (y0 :: y1 :: y2 :: y3 :: r')[i]? = some y → w.cell? ⟨b, off + k + (4 + N) + i, none⟩ = some (.int .u8 y.toNat) := by
    intro i y hiy
    rw [← hs, List.getElem?_drop] at hiy
    rw [show off + k + (4 + N) + i = off + k + (N + i + 4) by omega]
    exact hD.cell (N + i + 4) y (by simpa using hiy)
  have d0 : w.cell? ⟨b, off + k + (4 + N), none⟩ = some (.int .u8 y0.toNat) := hy 0 y0 rfl
  have d1 := hy 1 y1 rfl
  have d2 := hy 2 y2 rfl
  have d3 := hy 3 y3 rfl
  have m0 := y0.toNat_lt
  have m1 := y1.toNat_lt
  have m2 := y2.toNat_lt
  have m3 := y3.toNat_lt
  have z0 : IntKind.u32.wrap ((y0.toNat : Int) * 16777216) = (y0.toNat : Int) * 16777216 := by rw [IntKind.wrap_u32']; omega
  have z1 : IntKind.u32.wrap ((y1.toNat : Int) * 65536) = (y1.toNat : Int) * 65536 := by rw [IntKind.wrap_u32']; omega
  have z2 : IntKind.u32.wrap ((y2.toNat : Int) * 256) = (y2.toNat : Int) * 256 := by rw [IntKind.wrap_u32']; omega
  have v1 := or32_a y0 y1
  have v2 := or32_b y0 y1 y2
  have v3 := or32_c y0 y1 y2 y3
  have SB : Hid (∀ W, Below w.heap.size w W → Byt W (.slice (some ⟨b, off + k, none⟩) (4 + N) (c - k)) (u :: x1 :: x2 :: x3 :: r.take N)) := fun W hW => hSB.below hW
  have DT := hid hDT
  have SL := hid (show (u :: x1 :: x2 :: x3 :: r.take N).length ≤ 1000000000 by simp; omega)
  have t6 : ((sumOf (u :: x1 :: x2 :: x3 :: r.take N) : Int) != (be [y0, y1, y2, y3] : Int)) = false := by rw [hq]; simp
  clear hq
  generalize be [y0, y1, y2, y3] = Q at *
  have HY := hid (And.intro hs hlen)
  clear hs hlen hSB hD hy htk hDT
  go_enter Tryd.func25, Tryd.ntmps25
  go_wp2_with fail
  go_quiet (fail)
  go_wp2_with fail
  go_quiet ((go_at_call 34; exact quiet_add_left (usum_any _ (u :: x1 :: x2 :: x3 :: r.take N) _ (by exact (SB.out _ (N0.out.drewN _).bel)) SL.out)))
  go_wp2_with fail
  refine wp_named (NB w k) ((N0.out.drewN _).drewN _) ?_
  intro W NW
  have b0 := (NW.bel.cell (p := ⟨b, off + k, none⟩) hb).trans c0
  obtain ⟨bx, r0, r1, r2, r3⟩ := NW.cells
  have rf0 := NW.res.frozen 0
  have rf1 := NW.res.frozen 1
  have rf2 := NW.res.frozen 2
  have rf3 := NW.res.frozen 3
  have hz2 : w.heap.size + 2 ≤ W.heap.size := NW.res.lt
  have hbw : b < W.heap.size := by omega
  have SK : Hid (∀ W2, Below W.heap.size W W2 → NB w k W2 ∧ (W2.cell? ⟨b, off + k, none⟩ = some (.int .u8 u.toNat) ∧ W2.cell? ⟨w.heap.size, 0, none⟩ = some (.int .i64 k) ∧ W2.cell? ⟨w.heap.size + 1, 0, none⟩ = some (.int .i64 0) ∧ W2.cell? ⟨w.heap.size + 1, 1, none⟩ = some (.slice none 0 0) ∧ W2.cell? ⟨w.heap.size + 1, 2, none⟩ = some (.int .i64 0) ∧ W2.cell? ⟨w.heap.size + 1, 3, none⟩ = some (.int .i64 0) ∧ W2.frozen? ⟨w.heap.size + 1, 0, none⟩ = false ∧ W2.frozen? ⟨w.heap.size + 1, 1, none⟩ = false ∧ W2.frozen? ⟨w.heap.size + 1, 2, none⟩ = false ∧ W2.frozen? ⟨w.heap.size + 1, 3, none⟩ = false)) := fun W2 h => by
    have N2 := NW.step h
    obtain ⟨b1, b2, b3, b4, b5⟩ := N2.cells
    exact ⟨N2, (h.cell (p := ⟨b, off + k, none⟩) hbw).trans b0, b1, b2, b3, b4, b5, N2.res.frozen 0, N2.res.frozen 1, N2.res.frozen 2, N2.res.frozen 3⟩
  have DTW : Hid (∀ W2, Below W.heap.size W W2 → From W2 1 (.slice (some ⟨b, off + k + 4, none⟩) N (c - k - 4)) N ((r.take N).map byteV)) := fun W2 h => by
    have h1 := ((DT.out.below NW.bel).below h).from_
    have h2 : (r.take N).length = N := by rw [List.length_take]; have := HY.out.2; omega
    rw [h2] at h1
    exact h1
  have OL : Hid ((W.alloc (.cells #[] 5)).ownsRow (w.heap.size + 2) 5 1 (.slice (some ⟨W.heap.size, 0, none⟩) 0 0) 0 []) := World.ownsRow_lit W #[] 0 hz2 (by unfold maxLen; omega) rfl
  have BL : Hid (Below W.heap.size W (W.alloc (.cells #[] 5))) := (Below.refl _ _).alloc (Nat.le_refl _) _
  have NWH := hid NW
  clear NW
  have HBN : Hid (¬ b = w.heap.size + 1) := by show ¬ b = _; omega
  have hnz : ¬ (bs.length - k = 0) := by have := M.out; omega
  have htn : (4 + (N : Int)).toNat = 4 + N := by omega
  have hs0 : w.heap.size < W.heap.size := by omega
  have P1 : Hid (0 + N ≤ maxLen) := by show 0 + N ≤ maxLen; unfold maxLen; omega
  have P2 : Hid ((0 + N) * 1 ≤ 140737488355328) := by show (0 + N) * 1 ≤ _; omega
  have P3 : Hid (w.heap.size + 2 ≤ (W.alloc (.cells #[] 5)).heap.size) := by show w.heap.size + 2 ≤ _; simp; omega
  have P4 : Hid (0 + N = N) := Nat.zero_add N
  have P5 := hid hz2
  have hw4 : IntKind.i64.wrap (4 + (N : Int)) = 4 + (N : Int) := IntWalk.i64_in _ (by omega)
  have hw5 : IntKind.i64.wrap ((k : Int) + 8) = (k : Int) + 8 := IntWalk.i64_in _ (by omega)
  have hw6 : IntKind.i64.wrap ((k : Int) + 8 + (N : Int)) = (k : Int) + 8 + (N : Int) := IntWalk.i64_in _ (by omega)
  have hw7 : IntKind.i64.wrap (u.toNat : Int) = (u.toNat : Int) := IntWalk.i64_in _ (by have := u.toNat_lt; omega)
  have hix : ∀ W2 : World, (Instr.indexAt 23 (.slice (some ⟨b, off + k, none⟩) (bs.length - k) (c - k)) (.int .i64 0)).run Tryd.prog W2 = .ok (.pointer (some ⟨b, off + k, none⟩)) W2 := by
    intro W2
    go_simp
  have hsl : ∀ W2 : World, (Instr.sliceAt 23 (.slice (some ⟨b, off + k, none⟩) (bs.length - k) (c - k)) (some (.int .i64 4)) (some (.int .i64 (4 + (N : Int)))) none).run Tryd.prog W2 = .ok (.slice (some ⟨b, off + k + 4, none⟩) N (c - k - 4)) W2 := by
    intro W2
    go_simp
  go_region_held3 (fun W2 => W2.cell? ⟨b, off + k, none⟩ = some (.int .u8 u.toNat) ∧ W2.cell? ⟨w.heap.size, 0, none⟩ = some (.int .i64 k))
    (first
      | exact ⟨b0, bx⟩
      | exact ⟨q0, qx⟩
      | exact (sk.out _ _ _ _)
      | exact ⟨(SK.out _ BL.out).2.1, (SK.out _ BL.out).2.2.1⟩
      | exact ⟨(SK.out _ BL.out.drew).2.1, (SK.out _ BL.out.drew).2.2.1⟩)
    (first
      | ((refine step_append_form _ (by rfl) (.tmp 115) (.tmp 119) _ (by rfl) (w.heap.size + 2) 5 i0 (.int .u8 0) 1 1 Tryd.underlying23 IP.out.1 IP.out.2.1 IP.out.2.2.1 IP.out.2.2.2 rfl Nat.one_pos (.slice (some ⟨W.heap.size, 0, none⟩) 0 0) 0 [] (by rfl) (by first | exact OL.out | exact OL.out.drew) (.slice (some ⟨b, off + k + 4, none⟩) N (c - k - 4)) N ((r.take N).map byteV) (by rfl) (by first | exact DTW.out _ BL.out | exact DTW.out _ BL.out.drew) (one_bytes _) (.inl (by simp [Value.ownBlock])) P1.out P2.out (by first | exact P3.out) N ((r.take N).map byteV) P4.out rfl ?_
          intro g cap w3 hown hgrow hat hlt1
          have hb3 : Below W.heap.size W w3 := by
            first
              | exact BL.out.grown hgrow (by simp) (fun k hk => by simp [Value.ownBlock] at hk; exact Nat.le_of_eq hk)
              | exact BL.out.drew.grown hgrow (by simp) (fun k hk => by simp [Value.ownBlock] at hk; exact Nat.le_of_eq hk)
          obtain ⟨qN, q0, qx, q1, q2, q3, q4, q5, q6, q7, q8⟩ := SK.out _ hb3
          have sk : Hid (∀ (a0 a1 a2 a3 : Value), ((((w3.setCell ⟨w.heap.size + 1, 0, none⟩ a0).setCell ⟨w.heap.size + 1, 1, none⟩ a1).setCell ⟨w.heap.size + 1, 2, none⟩ a2).setCell ⟨w.heap.size + 1, 3, none⟩ a3).cell? ⟨b, off + k, none⟩ = some (.int .u8 u.toNat) ∧ ((((w3.setCell ⟨w.heap.size + 1, 0, none⟩ a0).setCell ⟨w.heap.size + 1, 1, none⟩ a1).setCell ⟨w.heap.size + 1, 2, none⟩ a2).setCell ⟨w.heap.size + 1, 3, none⟩ a3).cell? ⟨w.heap.size, 0, none⟩ = some (.int .i64 k)) := fun a0 a1 a2 a3 => by
            have hOn : Only (fun k => k = w.heap.size + 1) w3 ((((w3.setCell ⟨w.heap.size + 1, 0, none⟩ a0).setCell ⟨w.heap.size + 1, 1, none⟩ a1).setCell ⟨w.heap.size + 1, 2, none⟩ a2).setCell ⟨w.heap.size + 1, 3, none⟩ a3) := ((((Only.refl (fun k => k = w.heap.size + 1) w3).put (b := w.heap.size + 1) rfl 0 _).put (b := w.heap.size + 1) rfl 1 _).put (b := w.heap.size + 1) rfl 2 _).put (b := w.heap.size + 1) rfl 3 _
            have hz3 := hb3.size
            exact ⟨(hOn.cell (p := ⟨b, off + k, none⟩) (Nat.lt_of_lt_of_le hbw hz3) (HBN.out)).trans q0, (hOn.cell (p := ⟨w.heap.size, 0, none⟩) (Nat.lt_of_lt_of_le hs0 hz3) (by simp)).trans qx⟩
          have O3 := hid (And.intro hown (And.intro hb3 qN))
          clear hown hgrow hat hlt1 hb3 qN)))
  all_goals
    have k1 := O3.out.2.2.res.put 0 (.int .i64 u.toNat)
    have k2 := k1.put 1 (.slice (some ⟨g, 0, none⟩) N cap)
    have k3 := k2.put 2 (.int .i64 k)
    have k4 := k3.put 3 (.int .i64 (k + 8 + N))
    have h0 := k1.cell 0
    have h1 := k2.cell 1
    have h2 := k3.cell 2
    have h3 := k4.cell 3
    simp at h0 h1 h2 h3
    have KK := hid (And.intro h0 (And.intro h1 (And.intro h2 h3)))
    clear h0 h1 h2 h3 k1 k2 k3 k4 hw4 hw5 hw6 hw7
    go_wp2_with fail
    obtain ⟨h0, h1, h2, h3⟩ := KK.out
    have hL : (r.take N).length = N := by rw [List.length_take]; have := HY.out.2; omega
    have hOn : Only (fun k => k = w.heap.size + 1) w3 ((((w3.setCell ⟨w.heap.size + 1, 0, none⟩ (.int .i64 u.toNat)).setCell ⟨w.heap.size + 1, 1, none⟩ (.slice (some ⟨g, 0, none⟩) N cap)).setCell ⟨w.heap.size + 1, 2, none⟩ (.int .i64 k)).setCell ⟨w.heap.size + 1, 3, none⟩ (.int .i64 (k + 8 + N))) := ((((Only.refl (fun k => k = w.heap.size + 1) w3).put (b := w.heap.size + 1) rfl 0 _).put (b := w.heap.size + 1) rfl 1 _).put (b := w.heap.size + 1) rfl 2 _).put (b := w.heap.size + 1) rfl 3 _
    have hown := own_more (B' := w.heap.size) (own_far1 O3.out.1 hOn (fun k hk e => by have := (O3.out.1.lt k hk).1; omega)) (by omega)
    have hbel : Below w.heap.size w ((((w3.setCell ⟨w.heap.size + 1, 0, none⟩ (.int .i64 u.toNat)).setCell ⟨w.heap.size + 1, 1, none⟩ (.slice (some ⟨g, 0, none⟩) N cap)).setCell ⟨w.heap.size + 1, 2, none⟩ (.int .i64 k)).setCell ⟨w.heap.size + 1, 3, none⟩ (.int .i64 (k + 8 + N))) := O3.out.2.2.bel.trans ⟨hOn.os, hOn.tape, hOn.output, hOn.size, fun k hk => hOn.block k (by have := O3.out.2.2.bel.size; omega) (by omega)⟩
    have he : Ending.returned (.tuple #[.agg #[.int .i64 u.toNat, .slice (some ⟨g, 0, none⟩) N cap, .int .i64 k, .int .i64 (k + 8 + N)], .nilIface]) = Ending.returned (.tuple #[.agg #[.int .i64 u.toNat, .slice (some ⟨g, 0, none⟩) (r.take N).length cap, .int .i64 k, .int .i64 (k + N + 8 : Nat)], .nilIface]) := by
      rw [hL]
      have : ((k : Int) + 8 + (N : Int)) = ((k + N + 8 : Nat) : Int) := by omega
      rw [this]
    refine bodyPost_ret (v := .tuple #[.agg #[.int .i64 u.toNat, .slice (some ⟨g, 0, none⟩) N cap, .int .i64 k, .int .i64 (k + 8 + N)], .nilIface]) (by simp [results, Tryd.results25, go_sem, h0, h1, h2, h3]) rfl ⟨g, cap, he, ?_, ?_⟩
    · show World.ownsRow _ _ _ _ (.slice (some ⟨g, 0, none⟩) (r.take N).length cap) (r.take N).length ((r.take N).map byteV)
      rw [hL]
      exact hown
    · exact hbel
end Go.Proofs.YtabklmkdneoaaaaDoor
