/- unit.Sum, kinref4.Sum: walks. -/
import Derived.Test.YtabklmkdneoaaaaDoorProg
import Derived.Test.YtabklmkdneoaaaaDoorUMem
import Derived.Deep.LoopGhost
import Derived.Outline
namespace Go.Proofs.YtabklmkdneoaaaaDoor
open Go.RowKit

theorem and1_u32 {a : Nat} (ha : a < 4294967296) : bits .and .u32 (a : Int) 1 = ((a % 2 : Nat) : Int) := by
  have h : bits .and .u32 (a : Int) ((1 : Nat) : Int) = ((a &&& 1 : Nat) : Int) := u32_and_nat _ _ ha (by omega)
  rw [nat_mask1] at h
  exact h
theorem xorPoly_u32 {a : Nat} (ha : a < 4294967296) : bits .xor .u32 (a : Int) 3988292384 = ((a ^^^ 3988292384 : Nat) : Int) := by
  have h : bits .xor .u32 (a : Int) ((3988292384 : Nat) : Int) = ((a ^^^ 3988292384 : Nat) : Int) := u32_xor_nat _ _ ha (by decide)
  exact h
theorem xorByte_u32 {a v : Nat} (ha : a < 4294967296) (hv : v < 256) : bits .xor .u32 (a : Int) (v : Int) = ((a ^^^ v : Nat) : Int) := u32_xor_nat _ _ ha (by omega)

theorem crcBit_even {D : Nat} (h : D % 2 = 0) : (((crcBit D : Nat)) : Int) = (D : Int) / 2 := by unfold crcBit; rw [if_neg (by omega)]; omega
theorem crcBit_odd {D : Nat} (hD : D < 4294967296) (h : D % 2 = 1) : (((crcBit D : Nat)) : Int) = bits .xor .u32 ((D : Int) / 2) 3988292384 := by
  unfold crcBit
  rw [if_pos h, ← xorPoly_u32 (by omega)]
  congr 1
theorem not_u32 {a : Nat} (ha : a < 4294967296) : bits .xor .u32 IntKind.u32.max (a : Int) = ((4294967295 ^^^ a : Nat) : Int) := by
  have h : bits .xor .u32 ((4294967295 : Nat) : Int) (a : Int) = ((4294967295 ^^^ a : Nat) : Int) := u32_xor_nat _ _ (by decide) ha
  exact h
set_option maxRecDepth 100000 in
set_option maxHeartbeats 1000000 in
theorem usum_any (x : Value) (bs : List UInt8) (w : World) (hx : Byt w x bs) (hl : bs.length ≤ 1000000000) :
    Calls Tryd.prog 34 #[x] w fun e w' => e = .returned (.int .u32 (sumOf bs)) ∧ w = w' := by
  obtain ⟨A, c, rfl, hc⟩ := hx.form
  have X := hid hx
  clear hx
  go_enter Tryd.func34, Tryd.ntmps34
  go_wp2_with fail
  go_loopg [3, 8] bs.length (fun k cv i wr => ∃ j : Nat, j + k = bs.length ∧ i = .int .i64 j ∧ cv = .int .u32 (crcFrom 4294967295 (bs.take j)) ∧ wr = w)
  case atStart => exact ⟨0, by omega, rfl, rfl, rfl⟩
  case round =>
    obtain ⟨j, hj, rfl, rfl, rfl⟩ := hrel
    by_cases hlt : j < bs.length
    · obtain ⟨b, off, u, rfl, hb, hu, c0⟩ := X.out.at_ hlt
      have ht : crcFrom 4294967295 (bs.take (j + 1)) = crcByte (crcFrom 4294967295 (bs.take j)) u := by
        rw [List.take_add_one, hu, crcFrom_append]
        rfl
      have hcl := crcFrom_lt (bs.take j) (c := 4294967295) (by omega)
      generalize hC : crcFrom 4294967295 (bs.take j) = C at *
      have hu2 := u.toNat_lt
      have HT := hid (And.intro ht (And.intro hC (And.intro hu hj)))
      have x1 := xorByte_u32 hcl hu2
      have hm := crcMix_lt hcl u
      clear ht hC hu hj
      go_wp2_with fail
      obtain ⟨g0, rfl⟩ : ∃ g0, g0 = gk := ⟨_, rfl⟩
      obtain ⟨wo, rfl⟩ : ∃ wo, wo = wr := ⟨_, rfl⟩
      generalize hM : C ^^^ u.toNat = M at *
      have HM := hid hM
      clear hM x1
      go_loopg [3, 16] 8 (fun k cv i wr2 => ∃ m : Nat, m + k = 8 ∧ i = .int .i64 m ∧ cv = .int .u32 (crcBits m M) ∧ wr2 = wo)
      case atStart => exact ⟨0, rfl, rfl, rfl, rfl⟩
      case round =>
        obtain ⟨m, hm8, rfl, rfl, rfl⟩ := hrel
        by_cases hl8 : m < 8
        · have hD := crcBits_lt m hm
          have hs : crcBits (m + 1) M = crcBit (crcBits m M) := rfl
          generalize hDD : crcBits m M = D at *
          have HD := hid (And.intro hs hDD)
          have d0 : (0 : Int) ≤ (D : Int) := by omega
          have d1 : (D : Int) < 4294967296 := by omega
          have a1 := and1_u32 hD
          clear hs hDD
          rcases Nat.mod_two_eq_zero_or_one D with hp | hp
          · rw [hp] at a1
            have HP := hid (And.intro (crcBit_even hp) (And.intro hD hm8))
            simp only [Int.natCast_zero] at a1
            clear hp hD d1 hm hcl hu2
            go_wp2_with fail
            have h8 := HP.out.2.2
            go_roundg (gk - 1)
            case measure => omega
            case rel => exact ⟨m + 1, by omega, by go_num, by rw [HD.out.1, HP.out.1], rfl⟩
          · rw [hp] at a1
            have HP := hid (And.intro (crcBit_odd hD hp) (And.intro hD hm8))
            simp only [Int.natCast_one] at a1
            clear hp hD d1 hm hcl hu2
            go_wp2_with fail
            have h8 := HP.out.2.2
            go_roundg (gk - 1)
            case measure => omega
            case rel => exact ⟨m + 1, by omega, by go_num, by rw [HD.out.1, HP.out.1], rfl⟩
        · obtain rfl : m = 8 := by omega
          go_wp2_with fail
          have hj := HT.out.2.2.2
          go_roundg (g0 - 1)
          case measure => omega
          case rel => exact ⟨j + 1, by omega, by go_num, by rw [HT.out.1]; unfold crcByte; rw [HM.out], rfl⟩
    · obtain rfl : j = bs.length := by omega
      have hn := not_u32 (crcFrom_lt bs (c := 4294967295) (by omega))
      have HN := hid hn
      rw [List.take_length]
      clear hn hlt hj
      go_wp2_with fail
      go_ret
      exact ⟨congrArg (fun z => Ending.returned (.int .u32 z)) HN.out, rfl⟩
set_option maxRecDepth 100000 in
set_option maxHeartbeats 1000000 in
theorem rsum_any (x : Value) (bs : List UInt8) (w : World) (hx : Byt w x bs) (hl : bs.length ≤ 1000000000) :
    Calls Tryd.prog 35 #[x] w fun e w' => e = .returned (.int .u32 (sumOf bs)) ∧ w = w' := by
  obtain ⟨A, c, rfl, hc⟩ := hx.form
  have X := hid hx
  clear hx
  go_enter Tryd.func35, Tryd.ntmps35
  go_wp2_with fail
  go_loopg [3, 4] bs.length (fun k cv i wr => ∃ j : Nat, j + k = bs.length ∧ i = .int .i64 j ∧ cv = .int .u32 (crcFrom 4294967295 (bs.take j)) ∧ wr = w)
  case atStart => exact ⟨0, by omega, rfl, rfl, rfl⟩
  case round =>
    obtain ⟨j, hj, rfl, rfl, rfl⟩ := hrel
    by_cases hlt : j < bs.length
    · obtain ⟨b, off, u, rfl, hb, hu, c0⟩ := X.out.at_ hlt
      have ht : crcFrom 4294967295 (bs.take (j + 1)) = crcByte (crcFrom 4294967295 (bs.take j)) u := by
        rw [List.take_add_one, hu, crcFrom_append]
        rfl
      have hcl := crcFrom_lt (bs.take j) (c := 4294967295) (by omega)
      generalize hC : crcFrom 4294967295 (bs.take j) = C at *
      have hu2 := u.toNat_lt
      have HT := hid (And.intro ht (And.intro hC (And.intro hu hj)))
      have x1 := xorByte_u32 hcl hu2
      have hm := crcMix_lt hcl u
      clear ht hC hu hj
      go_wp2_with fail
      obtain ⟨g0, rfl⟩ : ∃ g0, g0 = gk := ⟨_, rfl⟩
      obtain ⟨wo, rfl⟩ : ∃ wo, wo = wr := ⟨_, rfl⟩
      generalize hM : C ^^^ u.toNat = M at *
      have HM := hid hM
      clear hM x1
      go_loopg [3, 5] 8 (fun k cv i wr2 => ∃ m : Nat, m + k = 8 ∧ i = .int .i64 m ∧ cv = .int .u32 (crcBits m M) ∧ wr2 = wo)
      case atStart => exact ⟨0, rfl, rfl, rfl, rfl⟩
      case round =>
        obtain ⟨m, hm8, rfl, rfl, rfl⟩ := hrel
        by_cases hl8 : m < 8
        · have hD := crcBits_lt m hm
          have hs : crcBits (m + 1) M = crcBit (crcBits m M) := rfl
          generalize hDD : crcBits m M = D at *
          have HD := hid (And.intro hs hDD)
          have d0 : (0 : Int) ≤ (D : Int) := by omega
          have d1 : (D : Int) < 4294967296 := by omega
          have a1 := and1_u32 hD
          clear hs hDD
          rcases Nat.mod_two_eq_zero_or_one D with hp | hp
          · rw [hp] at a1
            have HP := hid (And.intro (crcBit_even hp) (And.intro hD hm8))
            simp only [Int.natCast_zero] at a1
            clear hp hD d1 hm hcl hu2
            go_wp2_with fail
            have h8 := HP.out.2.2
            go_roundg (gk - 1)
            case measure => omega
            case rel => exact ⟨m + 1, by omega, by go_num, by rw [HD.out.1, HP.out.1], rfl⟩
          · rw [hp] at a1
            have HP := hid (And.intro (crcBit_odd hD hp) (And.intro hD hm8))
            simp only [Int.natCast_one] at a1
            clear hp hD d1 hm hcl hu2
            go_wp2_with fail
            have h8 := HP.out.2.2
            go_roundg (gk - 1)
            case measure => omega
            case rel => exact ⟨m + 1, by omega, by go_num, by rw [HD.out.1, HP.out.1], rfl⟩
        · obtain rfl : m = 8 := by omega
          go_wp2_with fail
          have hj := HT.out.2.2.2
          go_roundg (g0 - 1)
          case measure => omega
          case rel => exact ⟨j + 1, by omega, by go_num, by rw [HT.out.1]; unfold crcByte; rw [HM.out], rfl⟩
    · obtain rfl : j = bs.length := by omega
      have hn := not_u32 (crcFrom_lt bs (c := 4294967295) (by omega))
      have HN := hid hn
      rw [List.take_length]
      clear hn hlt hj
      go_wp2_with fail
      go_ret
      exact ⟨congrArg (fun z => Ending.returned (.int .u32 z)) HN.out, rfl⟩
end Go.Proofs.YtabklmkdneoaaaaDoor
