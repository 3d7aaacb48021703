/- unit.Next: the walk at the sum, and a unit. -/
import Derived.Test.YtabklmkdneoaaaaDoorUNext2
import Derived.Deep.RegionHeld3
namespace Go.Proofs.YtabklmkdneoaaaaDoor
open Go.RowKit

theorem quiet_add_left {P : Program} {f : FuncId} {args : Array Value} {w : World} {a n : Nat} {v : Value}
    (h : Calls P f args (w.drewN (a + n)) fun e w' => e = .returned v ∧ w.drewN (a + n) = w') :
    Calls P f args (w.drewN (a + n)) fun e w'' => e = .returned v ∧ ∃ m, w'' = w.drewN (a + m) :=
  h.mono fun _ _ ⟨he, hm⟩ => ⟨he, n, hm.symm⟩
theorem or32_a (x y : UInt8) : bits .or .u32 ((x.toNat : Int) * 16777216) ((y.toNat : Int) * 65536) = (x.toNat : Int) * 16777216 + (y.toNat : Int) * 65536 := by
  have hx := x.toNat_lt
  have hy := y.toNat_lt
  have h := u32_or_nat (x.toNat * 16777216) (y.toNat * 65536) (by omega) (by omega)
  rw [nat_join 24 _ _ (by omega) (by omega)] at h
  simpa using h
theorem or32_b (x y z : UInt8) : bits .or .u32 ((x.toNat : Int) * 16777216 + (y.toNat : Int) * 65536) ((z.toNat : Int) * 256) = (x.toNat : Int) * 16777216 + (y.toNat : Int) * 65536 + (z.toNat : Int) * 256 := by
  have hx := x.toNat_lt
  have hy := y.toNat_lt
  have hz := z.toNat_lt
  have h := u32_or_nat (x.toNat * 16777216 + y.toNat * 65536) (z.toNat * 256) (by omega) (by omega)
  rw [nat_join 16 _ _ (by omega) (by omega)] at h
  simpa using h
theorem or32_c (x y z t : UInt8) : bits .or .u32 ((x.toNat : Int) * 16777216 + (y.toNat : Int) * 65536 + (z.toNat : Int) * 256) (t.toNat : Int) = ((be [x, y, z, t] : Nat) : Int) := by
  have hx := x.toNat_lt
  have hy := y.toNat_lt
  have hz := z.toNat_lt
  have ht := t.toNat_lt
  have h := u32_or_nat (x.toNat * 16777216 + y.toNat * 65536 + z.toNat * 256) t.toNat (by omega) (by omega)
  rw [nat_join 8 _ _ (by omega) (by omega)] at h
  rw [be4]
  simpa using h
set_option maxRecDepth 100000 in
set_option maxHeartbeats 1600000 in
theorem next_sum (x : Value) (bs r r' : List UInt8) (k : Nat) (u x1 x2 x3 y0 y1 y2 y3 : UInt8) (w : World) (hx : Byt w x bs) (hk : k < bs.length) (hr : bs.drop k = u :: x1 :: x2 :: x3 :: r) (h0 : u ≠ 0) (hl : bs.length ≤ 1000000) (hn : be [x1, x2, x3] ≤ 65536) (hs : r.drop (be [x1, x2, x3]) = y0 :: y1 :: y2 :: y3 :: r') (hq : be [y0, y1, y2, y3] ≠ sumOf (u :: x1 :: x2 :: x3 :: r.take (be [x1, x2, x3]))) :
    Calls Tryd.prog 25 #[x, .int .i64 k] w (NoUnit 4 [(unitS, k)] w) := by
  obtain ⟨A, c, rfl, hc⟩ := hx.form
  obtain ⟨b, off, rfl, hb, hd⟩ := hx.drop hk
  have hm : bs.length - k = r.length + 4 := by rw [← List.length_drop, hr]; rfl
  rw [hr] at hd
  have hu : bs[k]? = some u := by
    have := congrArg (·[0]?) hr
    simpa using this
  have hne : ¬ (c = k) := by omega
  have k0 : (0 : Int) ≤ (k : Int) := by omega
  have k1 : (k : Int) < (bs.length : Int) := by omega
  have t1 : decide ((k : Int) < 0) = false := by simp
  have t2 : decide ((bs.length : Int) ≤ (k : Int)) = false := by simp; omega
  have t3 : decide (((bs.length - k : Nat) : Int) < 4) = false := by simp; omega
  have c0 := hx.cell k u hu
  have e4 : bs.length - k = (u :: x1 :: x2 :: x3 :: r).length := by rw [hm]; rfl
  have hd' := hd
  rw [e4] at hd'
  have c1 : w.cell? ⟨b, off + k + 1, none⟩ = some (.int .u8 x1.toNat) := hd'.cell 1 x1 rfl
  have c2 : w.cell? ⟨b, off + k + 2, none⟩ = some (.int .u8 x2.toNat) := hd'.cell 2 x2 rfl
  have c3 : w.cell? ⟨b, off + k + 3, none⟩ = some (.int .u8 x3.toNat) := hd'.cell 3 x3 rfl
  have hu0 : ((u.toNat : Int) == 0) = false := by
    simp
    intro h
    exact h0 (UInt8.toNat_inj.1 h)
  have hmf : ∀ (fn : Fn) (first cap : Array Value) (w : World), (Instr.makeFunc fn first cap).run Tryd.prog w = .ok (.func fn first cap) w := fun _ _ _ _ => rfl
  have i1 : (1 : Int) < ((bs.length - k : Nat) : Int) := by omega
  have i2 : (2 : Int) < ((bs.length - k : Nat) : Int) := by omega
  have i3 : (3 : Int) < ((bs.length - k : Nat) : Int) := by omega
  have l1 := x1.toNat_lt
  have l2 := x2.toNat_lt
  have l3 := x3.toNat_lt
  have s1 : IntKind.i64.wrap ((x1.toNat : Int) * 65536) = (x1.toNat : Int) * 65536 := IntWalk.i64_in _ (by omega)
  have s2 : IntKind.i64.wrap ((x2.toNat : Int) * 256) = (x2.toNat : Int) * 256 := IntWalk.i64_in _ (by omega)
  have o1 := or_16_8 x1 x2
  have o2 := or_24_0 x1 x2 x3
  have N0 := hid (NB.new w k)
  generalize hN : be [x1, x2, x3] = N at *
  have HN := hid hN
  have XD := hid (And.intro hr (And.intro hd' (And.intro hx (And.intro e4 h0))))
  have M := hid hm
  clear hx hd hd' hu h0 hr hN e4 hm
  have t4 : decide (65536 < (N : Int)) = false := by simp; omega
  have hlen : N + 4 ≤ r.length := by have := congrArg List.length hs; simp at this; omega
  have t5 : decide (((bs.length - k : Nat) : Int) - 8 < (N : Int)) = false := by have := M.out; simp; omega
  have e6 : (8 : Int) + (N : Int) ≤ ((c - k : Nat) : Int) := by have := M.out; omega
  have e7 : 8 + N - (4 + N) = 4 := by omega
  have htk : (u :: x1 :: x2 :: x3 :: r).take (4 + N) = u :: x1 :: x2 :: x3 :: r.take N := by rw [Nat.add_comm]; rfl
  have hD : Byt w (.slice (some ⟨b, off + k, none⟩) (u :: x1 :: x2 :: x3 :: r).length (c - k)) (u :: x1 :: x2 :: x3 :: r) := XD.out.2.1
  have hSB := hD.take (k := 4 + N) (by simp; omega)
  rw [htk] at hSB
  have hy : ∀ i y, (y0 :: y1 :: y2 :: y3 :: r')[i]? = some y → w.cell? ⟨b, off + k + (4 + N) + i, none⟩ = some (.int .u8 y.toNat) := by
    intro i y hiy
    rw [← hs, List.getElem?_drop] at hiy
    rw [show off + k + (4 + N) + i = off + k + (N + i + 4) by omega]
    exact hD.cell (N + i + 4) y (by simpa using hiy)
  have d0 : w.cell? ⟨b, off + k + (4 + N), none⟩ = some (.int .u8 y0.toNat) := hy 0 y0 rfl
  have d1 := hy 1 y1 rfl
  have d2 := hy 2 y2 rfl
  have d3 := hy 3 y3 rfl
  have m0 := y0.toNat_lt
  have m1 := y1.toNat_lt
  have m2 := y2.toNat_lt
  have m3 := y3.toNat_lt
  have z0 : IntKind.u32.wrap ((y0.toNat : Int) * 16777216) = (y0.toNat : Int) * 16777216 := by rw [IntKind.wrap_u32']; omega
  have z1 : IntKind.u32.wrap ((y1.toNat : Int) * 65536) = (y1.toNat : Int) * 65536 := by rw [IntKind.wrap_u32']; omega
  have z2 : IntKind.u32.wrap ((y2.toNat : Int) * 256) = (y2.toNat : Int) * 256 := by rw [IntKind.wrap_u32']; omega
  have v1 := or32_a y0 y1
  have v2 := or32_b y0 y1 y2
  have v3 := or32_c y0 y1 y2 y3
  have SB : Hid (∀ W, Below w.heap.size w W → Byt W (.slice (some ⟨b, off + k, none⟩) (4 + N) (c - k)) (u :: x1 :: x2 :: x3 :: r.take N)) := fun W hW => hSB.below hW
  have SL := hid (show (u :: x1 :: x2 :: x3 :: r.take N).length ≤ 1000000000 by simp; omega)
  have t6 : ((sumOf (u :: x1 :: x2 :: x3 :: r.take N) : Int) != (be [y0, y1, y2, y3] : Int)) = true := by simp; omega
  clear hq
  generalize be [y0, y1, y2, y3] = Q at *
  have HY := hid (And.intro hs hlen)
  clear hs hlen hSB hD hy htk
  go_enter Tryd.func25, Tryd.ntmps25
  go_wp2_with fail
  go_quiet (fail)
  go_wp2_with fail
  go_quiet ((go_at_call 34; exact quiet_add_left (usum_any _ (u :: x1 :: x2 :: x3 :: r.take N) _ (by exact (SB.out _ (N0.out.drewN _).bel)) SL.out)))
  go_wp2_with fail
  refine (refuse_any 4 w.heap.size k _ (by simp)).mono ?_
  rintro e w2 ⟨v, rfl, hv, hb2⟩
  have N1 := hid ((N0.out.drewN _).step hb2)
  obtain ⟨d0, r0, r1, r2, r3⟩ := N1.out.cells
  have rf0 := N1.out.res.frozen 0
  have rf1 := N1.out.res.frozen 1
  have rf2 := N1.out.res.frozen 2
  have rf3 := N1.out.res.frozen 3
  have V := hid hv
  clear hv hb2
  go_wp2_with fail
  have k1 := N1.out.res.put 0 (.int .i64 0)
  have k2 := k1.put 1 (.slice none 0 0)
  have k3 := k2.put 2 (.int .i64 0)
  have k4 := k3.put 3 (.int .i64 0)
  have h0 := k1.cell 0
  have h1 := k2.cell 1
  have h2 := k3.cell 2
  have h3 := k4.cell 3
  simp at h0 h1 h2 h3
  refine bodyPost_ret (v := .tuple #[.agg #[.int .i64 0, .slice none 0 0, .int .i64 0, .int .i64 0], v]) ?_ rfl ⟨v, rfl, (N1.out.ends V.out).1, (N1.out.ends V.out).2⟩
  simp [results, Tryd.results25, go_sem, h0, h1, h2, h3]
end Go.Proofs.YtabklmkdneoaaaaDoor
