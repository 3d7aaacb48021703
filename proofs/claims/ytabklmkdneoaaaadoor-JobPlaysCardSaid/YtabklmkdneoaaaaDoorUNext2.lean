/- unit.Next: the walk behind the length. -/
import Derived.Test.YtabklmkdneoaaaaDoorUNext
namespace Go.Proofs.YtabklmkdneoaaaaDoor
open Go.RowKit

theorem ofInt_i64 (a : Nat) (ha : a < 9223372036854775808) : (BitVec.ofInt 64 (a : Int)).toNat = a := by
  rw [BitVec.ofInt_natCast, BitVec.toNat_ofNat]; exact Nat.mod_eq_of_lt (by omega)
theorem i64_or_nat (a b : Nat) (ha : a < 9223372036854775808) (hb : b < 9223372036854775808) : bits .or .i64 (a : Int) (b : Int) = ((a ||| b : Nat) : Int) := by
  have hx : a ||| b < 2 ^ 63 := Nat.or_lt_two_pow (by omega) (by omega)
  show IntKind.i64.wrap ((BitVec.ofInt 64 (a : Int) ||| BitVec.ofInt 64 (b : Int)).toNat : Int) = _
  rw [BitVec.toNat_or, ofInt_i64 a ha, ofInt_i64 b hb, IntKind.wrap_i64]
  omega
theorem or_16_8 (x y : UInt8) : bits .or .i64 ((x.toNat : Int) * 65536) ((y.toNat : Int) * 256) = (x.toNat : Int) * 65536 + (y.toNat : Int) * 256 := by
  have hx := x.toNat_lt
  have hy := y.toNat_lt
  have h := i64_or_nat (x.toNat * 65536) (y.toNat * 256) (by omega) (by omega)
  rw [nat_join 16 _ _ (by omega) (by omega)] at h
  simpa using h
theorem or_24_0 (x y z : UInt8) : bits .or .i64 ((x.toNat : Int) * 65536 + (y.toNat : Int) * 256) (z.toNat : Int) = ((be [x, y, z] : Nat) : Int) := by
  have hx := x.toNat_lt
  have hy := y.toNat_lt
  have hz := z.toNat_lt
  have h := i64_or_nat (x.toNat * 65536 + y.toNat * 256) z.toNat (by omega) (by omega)
  rw [nat_join 8 _ _ (by omega) (by omega)] at h
  rw [be3]
  simpa using h
set_option maxRecDepth 100000 in
set_option maxHeartbeats 1600000 in
theorem next_long (x : Value) (bs r : List UInt8) (k : Nat) (u x1 x2 x3 : UInt8) (w : World) (hx : Byt w x bs) (hk : k < bs.length) (hr : bs.drop k = u :: x1 :: x2 :: x3 :: r) (h0 : u ≠ 0) (_ : bs.length ≤ 1000000) (hn : 65536 < be [x1, x2, x3]) :
    Calls Tryd.prog 25 #[x, .int .i64 k] w (NoUnit 5 [(unitS, k)] w) := by
  obtain ⟨A, c, rfl, hc⟩ := hx.form
  obtain ⟨b, off, rfl, hb, hd⟩ := hx.drop hk
  have hm : bs.length - k = r.length + 4 := by rw [← List.length_drop, hr]; rfl
  rw [hr] at hd
  have hu : bs[k]? = some u := by
    have := congrArg (·[0]?) hr
    simpa using this
  have hne : ¬ (c = k) := by omega
  have k0 : (0 : Int) ≤ (k : Int) := by omega
  have k1 : (k : Int) < (bs.length : Int) := by omega
  have t1 : decide ((k : Int) < 0) = false := by simp
  have t2 : decide ((bs.length : Int) ≤ (k : Int)) = false := by simp; omega
  have t3 : decide (((bs.length - k : Nat) : Int) < 4) = false := by simp; omega
  have c0 := hx.cell k u hu
  have e4 : bs.length - k = (u :: x1 :: x2 :: x3 :: r).length := by rw [hm]; rfl
  have hd' := hd
  rw [e4] at hd'
  have c1 : w.cell? ⟨b, off + k + 1, none⟩ = some (.int .u8 x1.toNat) := hd'.cell 1 x1 rfl
  have c2 : w.cell? ⟨b, off + k + 2, none⟩ = some (.int .u8 x2.toNat) := hd'.cell 2 x2 rfl
  have c3 : w.cell? ⟨b, off + k + 3, none⟩ = some (.int .u8 x3.toNat) := hd'.cell 3 x3 rfl
  have hu0 : ((u.toNat : Int) == 0) = false := by
    simp
    intro h
    exact h0 (UInt8.toNat_inj.1 h)
  have hmf : ∀ (fn : Fn) (first cap : Array Value) (w : World), (Instr.makeFunc fn first cap).run Tryd.prog w = .ok (.func fn first cap) w := fun _ _ _ _ => rfl
  have i1 : (1 : Int) < ((bs.length - k : Nat) : Int) := by omega
  have i2 : (2 : Int) < ((bs.length - k : Nat) : Int) := by omega
  have i3 : (3 : Int) < ((bs.length - k : Nat) : Int) := by omega
  have l1 := x1.toNat_lt
  have l2 := x2.toNat_lt
  have l3 := x3.toNat_lt
  have s1 : IntKind.i64.wrap ((x1.toNat : Int) * 65536) = (x1.toNat : Int) * 65536 := IntWalk.i64_in _ (by omega)
  have s2 : IntKind.i64.wrap ((x2.toNat : Int) * 256) = (x2.toNat : Int) * 256 := IntWalk.i64_in _ (by omega)
  have o1 := or_16_8 x1 x2
  have o2 := or_24_0 x1 x2 x3
  have N0 := hid (NB.new w k)
  generalize hN : be [x1, x2, x3] = N at *
  have HN := hid hN
  have XD := hid (And.intro hr (And.intro hd' (And.intro hx (And.intro e4 h0))))
  have M := hid hm
  clear hx hd hd' hu h0 hr hN e4 hm
  have t4 : decide (65536 < (N : Int)) = true := by simp; omega
  go_enter Tryd.func25, Tryd.ntmps25
  go_wp2_with fail
  go_quiet (fail)
  go_wp2_with fail
  refine (refuse_any 5 w.heap.size k _ (by simp)).mono ?_
  rintro e w2 ⟨v, rfl, hv, hb2⟩
  have N1 := hid ((N0.out.drewN _).step hb2)
  obtain ⟨d0, r0, r1, r2, r3⟩ := N1.out.cells
  have rf0 := N1.out.res.frozen 0
  have rf1 := N1.out.res.frozen 1
  have rf2 := N1.out.res.frozen 2
  have rf3 := N1.out.res.frozen 3
  have V := hid hv
  clear hv hb2
  go_wp2_with fail
  have k1 := N1.out.res.put 0 (.int .i64 0)
  have k2 := k1.put 1 (.slice none 0 0)
  have k3 := k2.put 2 (.int .i64 0)
  have k4 := k3.put 3 (.int .i64 0)
  have h0 := k1.cell 0
  have h1 := k2.cell 1
  have h2 := k3.cell 2
  have h3 := k4.cell 3
  simp at h0 h1 h2 h3
  refine bodyPost_ret (v := .tuple #[.agg #[.int .i64 0, .slice none 0 0, .int .i64 0, .int .i64 0], v]) ?_ rfl ⟨v, rfl, (N1.out.ends V.out).1, (N1.out.ends V.out).2⟩
  simp [results, Tryd.results25, go_sem, h0, h1, h2, h3]
set_option maxRecDepth 100000 in
set_option maxHeartbeats 1600000 in
theorem next_short2 (x : Value) (bs r : List UInt8) (k : Nat) (u x1 x2 x3 : UInt8) (w : World) (hx : Byt w x bs) (hk : k < bs.length) (hr : bs.drop k = u :: x1 :: x2 :: x3 :: r) (h0 : u ≠ 0) (_ : bs.length ≤ 1000000) (hn : be [x1, x2, x3] ≤ 65536) (hs : r.length < be [x1, x2, x3] + 4) :
    Calls Tryd.prog 25 #[x, .int .i64 k] w (NoUnit 1 [(unitS, k)] w) := by
  obtain ⟨A, c, rfl, hc⟩ := hx.form
  obtain ⟨b, off, rfl, hb, hd⟩ := hx.drop hk
  have hm : bs.length - k = r.length + 4 := by rw [← List.length_drop, hr]; rfl
  rw [hr] at hd
  have hu : bs[k]? = some u := by
    have := congrArg (·[0]?) hr
    simpa using this
  have hne : ¬ (c = k) := by omega
  have k0 : (0 : Int) ≤ (k : Int) := by omega
  have k1 : (k : Int) < (bs.length : Int) := by omega
  have t1 : decide ((k : Int) < 0) = false := by simp
  have t2 : decide ((bs.length : Int) ≤ (k : Int)) = false := by simp; omega
  have t3 : decide (((bs.length - k : Nat) : Int) < 4) = false := by simp; omega
  have c0 := hx.cell k u hu
  have e4 : bs.length - k = (u :: x1 :: x2 :: x3 :: r).length := by rw [hm]; rfl
  have hd' := hd
  rw [e4] at hd'
  have c1 : w.cell? ⟨b, off + k + 1, none⟩ = some (.int .u8 x1.toNat) := hd'.cell 1 x1 rfl
  have c2 : w.cell? ⟨b, off + k + 2, none⟩ = some (.int .u8 x2.toNat) := hd'.cell 2 x2 rfl
  have c3 : w.cell? ⟨b, off + k + 3, none⟩ = some (.int .u8 x3.toNat) := hd'.cell 3 x3 rfl
  have hu0 : ((u.toNat : Int) == 0) = false := by
    simp
    intro h
    exact h0 (UInt8.toNat_inj.1 h)
  have hmf : ∀ (fn : Fn) (first cap : Array Value) (w : World), (Instr.makeFunc fn first cap).run Tryd.prog w = .ok (.func fn first cap) w := fun _ _ _ _ => rfl
  have i1 : (1 : Int) < ((bs.length - k : Nat) : Int) := by omega
  have i2 : (2 : Int) < ((bs.length - k : Nat) : Int) := by omega
  have i3 : (3 : Int) < ((bs.length - k : Nat) : Int) := by omega
  have l1 := x1.toNat_lt
  have l2 := x2.toNat_lt
  have l3 := x3.toNat_lt
  have s1 : IntKind.i64.wrap ((x1.toNat : Int) * 65536) = (x1.toNat : Int) * 65536 := IntWalk.i64_in _ (by omega)
  have s2 : IntKind.i64.wrap ((x2.toNat : Int) * 256) = (x2.toNat : Int) * 256 := IntWalk.i64_in _ (by omega)
  have o1 := or_16_8 x1 x2
  have o2 := or_24_0 x1 x2 x3
  have N0 := hid (NB.new w k)
  generalize hN : be [x1, x2, x3] = N at *
  have HN := hid hN
  have XD := hid (And.intro hr (And.intro hd' (And.intro hx (And.intro e4 h0))))
  have M := hid hm
  clear hx hd hd' hu h0 hr hN e4 hm
  have t4 : decide (65536 < (N : Int)) = false := by simp; omega
  have t5 : decide (((bs.length - k : Nat) : Int) - 8 < (N : Int)) = true := by have := M.out; simp; omega
  go_enter Tryd.func25, Tryd.ntmps25
  go_wp2_with fail
  go_quiet (fail)
  go_wp2_with fail
  refine (refuse_any 1 w.heap.size k _ (by simp)).mono ?_
  rintro e w2 ⟨v, rfl, hv, hb2⟩
  have N1 := hid ((N0.out.drewN _).step hb2)
  obtain ⟨d0, r0, r1, r2, r3⟩ := N1.out.cells
  have rf0 := N1.out.res.frozen 0
  have rf1 := N1.out.res.frozen 1
  have rf2 := N1.out.res.frozen 2
  have rf3 := N1.out.res.frozen 3
  have V := hid hv
  clear hv hb2
  go_wp2_with fail
  have k1 := N1.out.res.put 0 (.int .i64 0)
  have k2 := k1.put 1 (.slice none 0 0)
  have k3 := k2.put 2 (.int .i64 0)
  have k4 := k3.put 3 (.int .i64 0)
  have h0 := k1.cell 0
  have h1 := k2.cell 1
  have h2 := k3.cell 2
  have h3 := k4.cell 3
  simp at h0 h1 h2 h3
  refine bodyPost_ret (v := .tuple #[.agg #[.int .i64 0, .slice none 0 0, .int .i64 0, .int .i64 0], v]) ?_ rfl ⟨v, rfl, (N1.out.ends V.out).1, (N1.out.ends V.out).2⟩
  simp [results, Tryd.results25, go_sem, h0, h1, h2, h3]
end Go.Proofs.YtabklmkdneoaaaaDoor
