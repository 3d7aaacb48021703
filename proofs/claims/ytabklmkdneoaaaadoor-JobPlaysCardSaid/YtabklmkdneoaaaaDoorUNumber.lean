/- kinref4.Number, Value; unit.Size, Fill. -/
import Derived.Test.YtabklmkdneoaaaaDoorUMake
import Derived.Lib.MinMax
namespace Go.Proofs.YtabklmkdneoaaaaDoor
open Go.RowKit

theorem size_any (n : Int) (w : World) (h1 : -9223372036854775808 ≤ n) (h2 : n ≤ 4611686018427387904) : Calls Tryd.prog 26 #[.int .i64 n] w fun e w' => e = .returned (.int .i64 (n + 8)) ∧ w = w' := by
  go_enter Tryd.func26, Tryd.ntmps26
  go_wp2
  go_ret
  exact ⟨rfl, rfl⟩
set_option maxRecDepth 100000 in
set_option maxHeartbeats 800000 in
theorem number3 (v : Nat) (w : World) (_ : v ≤ 4294967295) : Calls Tryd.prog 75 #[.int .i64 v, .int .i64 3] w fun e w' => e = .returned (.slice (some ⟨w.heap.size, 0, none⟩) 3 3) ∧ w' = w.alloc (.cells #[.int .u8 (UInt8.ofNat (v / 65536)).toNat, .int .u8 (UInt8.ofNat (v / 256)).toNat, .int .u8 (UInt8.ofNat v).toNat] 5) := by
  have hmk : ∀ W : World, (Instr.makeSlice 23 (.int .i64 3) (.int .i64 3)).run Tryd.prog W = .ok (.slice (some ⟨W.heap.size, 0, none⟩) 3 3) (W.alloc (.cells #[.int .u8 0, .int .u8 0, .int .u8 0] 5)) := fun _ => by kernel_rfl
  have b0 : IntKind.u8.wrap ((v : Int)) = (((UInt8.ofNat v).toNat : Nat) : Int) := byte_self v
  have b1 : IntKind.u8.wrap ((v : Int) / 256) = (((UInt8.ofNat (v / 256)).toNat : Nat) : Int) := by rw [show ((v : Int) / 256) = ((v / 256 : Nat) : Int) by omega, wu8]; simp
  have b2 : IntKind.u8.wrap ((v : Int) / 256 / 256) = (((UInt8.ofNat (v / 65536)).toNat : Nat) : Int) := by rw [show ((v : Int) / 256 / 256) = ((v / 65536 : Nat) : Int) by omega, wu8]; simp
  generalize UInt8.ofNat (v / 65536) = c2 at *
  generalize UInt8.ofNat (v / 256) = c1 at *
  generalize UInt8.ofNat v = c0 at *
  go_enter Tryd.func75, Tryd.ntmps75
  go_wp2_with fail
  refine wp_loop_rounds 4 ?_
  rw [rounds_succ]
  go_wp2_with fail
  rw [rounds_succ]
  go_wp2_with fail
  rw [rounds_succ]
  go_wp2_with fail
  rw [rounds_succ]
  go_wp2_with fail
  go_ret
  exact ⟨rfl, rfl⟩
set_option maxRecDepth 100000 in
set_option maxHeartbeats 800000 in
theorem number4 (v : Nat) (w : World) (_ : v ≤ 4294967295) : Calls Tryd.prog 75 #[.int .i64 v, .int .i64 4] w fun e w' => e = .returned (.slice (some ⟨w.heap.size, 0, none⟩) 4 4) ∧ w' = w.alloc (.cells #[.int .u8 (UInt8.ofNat (v / 16777216)).toNat, .int .u8 (UInt8.ofNat (v / 65536)).toNat, .int .u8 (UInt8.ofNat (v / 256)).toNat, .int .u8 (UInt8.ofNat v).toNat] 5) := by
  have hmk : ∀ W : World, (Instr.makeSlice 23 (.int .i64 4) (.int .i64 4)).run Tryd.prog W = .ok (.slice (some ⟨W.heap.size, 0, none⟩) 4 4) (W.alloc (.cells #[.int .u8 0, .int .u8 0, .int .u8 0, .int .u8 0] 5)) := fun _ => by kernel_rfl
  have b0 : IntKind.u8.wrap ((v : Int)) = (((UInt8.ofNat v).toNat : Nat) : Int) := byte_self v
  have b1 : IntKind.u8.wrap ((v : Int) / 256) = (((UInt8.ofNat (v / 256)).toNat : Nat) : Int) := by rw [show ((v : Int) / 256) = ((v / 256 : Nat) : Int) by omega, wu8]; simp
  have b2 : IntKind.u8.wrap ((v : Int) / 256 / 256) = (((UInt8.ofNat (v / 65536)).toNat : Nat) : Int) := by rw [show ((v : Int) / 256 / 256) = ((v / 65536 : Nat) : Int) by omega, wu8]; simp
  have b3 : IntKind.u8.wrap ((v : Int) / 256 / 256 / 256) = (((UInt8.ofNat (v / 16777216)).toNat : Nat) : Int) := by rw [show ((v : Int) / 256 / 256 / 256) = ((v / 16777216 : Nat) : Int) by omega, wu8]; simp
  generalize UInt8.ofNat (v / 16777216) = c3 at *
  generalize UInt8.ofNat (v / 65536) = c2 at *
  generalize UInt8.ofNat (v / 256) = c1 at *
  generalize UInt8.ofNat v = c0 at *
  go_enter Tryd.func75, Tryd.ntmps75
  go_wp2_with fail
  refine wp_loop_rounds 5 ?_
  rw [rounds_succ]
  go_wp2_with fail
  rw [rounds_succ]
  go_wp2_with fail
  rw [rounds_succ]
  go_wp2_with fail
  rw [rounds_succ]
  go_wp2_with fail
  rw [rounds_succ]
  go_wp2_with fail
  go_ret
  exact ⟨rfl, rfl⟩
theorem be_snoc (l : List UInt8) (x : UInt8) : be (l ++ [x]) = be l * 256 + x.toNat := by unfold be; rw [List.foldl_append]; rfl
theorem be_lt (l : List UInt8) : be l < 256 ^ l.length := by
  have h : ∀ m : List UInt8, be m.reverse < 256 ^ m.length := by
    intro m
    induction m with
    | nil => simp [be]
    | cons x m ih =>
      rw [List.reverse_cons, be_snoc, List.length_cons, Nat.pow_succ]
      have := x.toNat_lt
      omega
  have := h l.reverse
  simpa using this
set_option maxRecDepth 100000 in
theorem uvalue_any (x : Value) (bs : List UInt8) (w : World) (hx : Byt w x bs) (hl : bs.length ≤ 4) :
    Calls Tryd.prog 73 #[x] w fun e w' => e = .returned (.int .i64 (be bs)) ∧ w = w' := by
  obtain ⟨A, c, rfl, hc⟩ := hx.form
  have X := hid hx
  clear hx
  go_enter Tryd.func73, Tryd.ntmps73
  go_wp2_with fail
  go_loopg [3, 4] bs.length (fun k v i wr => ∃ j : Nat, j + k = bs.length ∧ i = .int .i64 j ∧ v = .int .i64 (be (bs.take j)) ∧ wr = w)
  case atStart => exact ⟨0, by omega, rfl, rfl, rfl⟩
  case round =>
    obtain ⟨j, hj, rfl, rfl, rfl⟩ := hrel
    by_cases hlt : j < bs.length
    · obtain ⟨b, off, u, rfl, hb, hu, c0⟩ := X.out.at_ hlt
      have ht : be (bs.take (j + 1)) = be (bs.take j) * 256 + u.toNat := by
        rw [List.take_add_one, hu]
        exact be_snoc _ _
      have hlen : (bs.take j).length ≤ 3 := by simp; omega
      have hbe := be_lt (bs.take j)
      have hpow : 256 ^ (bs.take j).length ≤ 256 ^ 3 := Nat.pow_le_pow_right (by omega) hlen
      have hv : be (bs.take j) ≤ 16777216 := by omega
      have hu2 := u.toNat_lt
      have HT := hid (And.intro ht (And.intro hu hj))
      clear ht hu hj hpow hbe hlen
      generalize be (bs.take j) = V at *
      go_wp2_with fail
      have hj := HT.out.2.2
      go_roundg (gk - 1)
      case measure => omega
      case rel => exact ⟨j + 1, by omega, by go_num, by rw [HT.out.1]; go_num, rfl⟩
    · obtain rfl : j = bs.length := by omega
      rw [List.take_length]
      clear hlt hj
      go_wp2_with fail
      go_ret
      exact ⟨rfl, rfl⟩
theorem run_make_u8 (m : Nat) (hm : m ≤ 1000000) (W : World) : (Instr.makeSlice 23 (.int .i64 (m : Int)) (.int .i64 (m : Int))).run Tryd.prog W = .ok (.slice (some ⟨W.heap.size, 0, none⟩) m m) (W.alloc (.cells (madeCells #[.int .u8 0] m) 5)) := by
  obtain ⟨i0, hi0, hz0, hz1, hz2⟩ := info_parts info_u8
  have h := run_make (P := Tryd.prog) W 23 5 i0 (.int .u8 0) Tryd.underlying23 hi0 hz0 .i64 .i64 (m : Int) (m : Int) (by omega) (by omega) (by rw [hz2]; omega) (by omega)
  rw [hz1] at h
  simp only [Int.toNat_natCast, Nat.mul_one] at h
  exact h
theorem own_made_u8 (m : Nat) (hm : m ≤ 1000000) (W : World) (B : Nat) (hB : B ≤ W.heap.size) : (W.alloc (.cells (madeCells #[.int .u8 0] m) 5)).ownsRow B 5 1 (.slice (some ⟨W.heap.size, 0, none⟩) m m) m ((List.replicate m (0 : UInt8)).map byteV) := by
  have h := World.ownsRow_lit (base := B) (e := 5) (size := 1) W (madeCells #[.int .u8 0] m) m hB (by unfold maxLen; omega) (by rw [size_madeCells]; omega)
  rw [toList_madeCells_one] at h
  rw [List.map_replicate]
  exact h
set_option maxRecDepth 100000 in
theorem fill_any (n : Int) (w : World) : Calls Tryd.prog 33 #[.int .i64 n] w fun e w' => ∃ m : Nat, (m : Int) = min (max n 0) 65536 ∧ e = .returned (.slice (some ⟨w.heap.size, 0, none⟩) m m) ∧ w'.ownsRow w.heap.size 5 1 (.slice (some ⟨w.heap.size, 0, none⟩) m m) m ((List.replicate m (0 : UInt8)).map byteV) ∧ Below w.heap.size w w' := by
  obtain ⟨m, hm⟩ : ∃ m : Nat, min (max n 0) 65536 = (m : Int) := ⟨(min (max n 0) 65536).toNat, by omega⟩
  have hle : m ≤ 1000000 := by omega
  have HM := hid hm
  have hmk := run_make_u8 m hle
  have O := hid (own_made_u8 m hle w w.heap.size (Nat.le_refl _))
  go_enter Tryd.func33, Tryd.ntmps33
  go_wp2_with fail
  go_ret
  exact ⟨m, HM.out.symm, rfl, O.out, (Below.refl _ _).alloc (Nat.le_refl _) _⟩
end Go.Proofs.YtabklmkdneoaaaaDoor
