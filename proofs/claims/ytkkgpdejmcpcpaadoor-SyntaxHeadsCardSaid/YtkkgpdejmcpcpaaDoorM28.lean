/- Parts: XFirst20, XUSum, XUMake, XLawSPairs. -/
import Derived.Test.YtkkgpdejmcpcpaaDoorM26
import Derived.Test.YtkkgpdejmcpcpaaDoorM27
import Derived.Test.YtkkgpdejmcpcpaaDoorM17
import Derived.Test.YtkkgpdejmcpcpaaDoorProg
import Derived.Test.YtkkgpdejmcpcpaaDoorM02
import Derived.Deep.LoopGhost
import Derived.Outline
/- Chapter 20: kinlaw20.first. -/
namespace Go.Proofs.YtkkgpdejmcpcpaaDoor
open Go.RowKit

theorem pack_skip (w : World) : Calls Tryd.prog 9 #[.agg #[.int .i64 3, .int .i64 0, .slice none 0 0]] w fun e w' => ∃ A c, e = .returned (.tuple #[.agg #[.int .i64 3, .slice A 0 c], .nilIface]) ∧ Byt w' (.slice A 0 c) [] ∧ Below w.heap.size w w' :=
  (pack_any 3 0 _ [] w (byt_nil w) (by simp)).mono fun e w' ⟨v, h1, h2, h3⟩ => by
    have h0 : packNo 3 0 ([] : List UInt8).length = 0 := by decide
    have h4 : packB 3 0 [] = [] := by decide
    rw [h0, if_pos rfl, show codeV 0 = .nilIface from rfl] at h1
    rw [h0, if_pos rfl, h4] at h2
    obtain ⟨A, c, rfl, _⟩ := h2.form
    exact ⟨A, c, h1, h2, h3⟩
theorem pack_range (w : World) : Calls Tryd.prog 9 #[.agg #[.int .i64 1, .int .i64 16, .slice none 0 0]] w fun e w' => ∃ A c, e = .returned (.tuple #[.agg #[.int .i64 0, .slice A 0 c], .iface 33 (.int .i64 3)]) ∧ Below w.heap.size w w' :=
  (pack_any 1 16 _ [] w (byt_nil w) (by simp)).mono fun e w' ⟨v, h1, h2, h3⟩ => by
    have h0 : packNo 1 16 ([] : List UInt8).length = 3 := by decide
    rw [h0, if_neg (by decide), show codeV 3 = .iface 33 (.int .i64 3) from rfl] at h1
    rw [h0, if_neg (by decide)] at h2
    obtain ⟨A, c, rfl, _⟩ := h2.form
    exact ⟨A, c, h1, h3⟩
theorem read_short (w : World) : Calls Tryd.prog 11 #[.agg #[.int .i64 1, .slice none 0 0]] w fun e w' => ∃ A c, e = .returned (.tuple #[.agg #[.int .i64 0, .int .i64 0, .slice A 0 c], .iface 33 (.int .i64 1)]) ∧ Below w.heap.size w w' :=
  (read_any 1 _ [] w (byt_nil w) (by simp)).mono fun e w' ⟨v, h1, h2, h3⟩ => by
    have h0 : readNo 1 [] = 1 := by decide
    rw [h0, if_neg (by decide), if_neg (by decide), show codeV 1 = .iface 33 (.int .i64 1) from rfl] at h1
    rw [h0, if_neg (by decide)] at h2
    obtain ⟨A, c, rfl, _⟩ := h2.form
    exact ⟨A, c, h1, h3⟩
def sqK1 : SqS := ⟨1, 0, [0, 0, 0, 0], 0, 0, [], [[], [], [], []]⟩
def sqM2 : SqS := ⟨0, 2, [0, 0, 0, 0], 0, 0, [], [[], [], [], []]⟩
theorem sqM2_told (st : Wr) : (wrM.run (codeA false sqM2) st).1 = (none, bareS 0) := by
  have h := echo_told echo_wr (key := false) (s := sqM2) (right_of (by decide)) ⟨rfl, rfl⟩ st
  rw [h]
  rfl
structure FK (w : World) (cb : Nat) (A : Option Addr) (c : Nat) (W : World) : Prop where
  bel : Below w.heap.size w W
  blk : Blk W cb 26 #[.int .i64 3, .slice A 0 c]
  byt : Byt W (.slice A 0 c) []
theorem FK.below {w W W' : World} {cb : Nat} {A : Option Addr} {c : Nat} (h : FK w cb A c W) (hb : Below W.heap.size W W') : FK w cb A c W' := ⟨h.bel.trans (hb.mono h.bel.size), h.blk.below hb h.blk.lt, h.byt.below hb⟩
theorem FK.cells {w W : World} {cb : Nat} {A : Option Addr} {c : Nat} (h : FK w cb A c W) : W.cell? ⟨cb, 0, none⟩ = some (.int .i64 3) ∧ W.cell? ⟨cb, 1, none⟩ = some (.slice A 0 c) := ⟨by simpa using h.blk.cell 0, by simpa using h.blk.cell 1⟩
theorem FK.only {w W W' : World} {cb : Nat} {A : Option Addr} {c : Nat} {S : Nat → Prop} (h : FK w cb A c W) (o : Only S W W') (hc : ¬ S cb) (hS : ∀ k, S k → w.heap.size ≤ k) : FK w cb A c W' := by
  obtain ⟨A', c', e1, e2, _⟩ := h.byt
  refine ⟨h.bel.trans ⟨o.os, o.tape, o.output, o.size, fun k hk => o.block k (by have := h.bel.size; omega) (fun e => by have := hS k e; omega)⟩, h.blk.keep o hc, A', c', e1, e2, fun h => absurd rfl h⟩
structure FS (w : World) (cb sb : Nat) (A : Option Addr) (c : Nat) (W : World) : Prop where
  k : FK w cb A c W
  s0 : W.cell? ⟨sb, 0, none⟩ = some (.int .i64 0)
  s1 : W.cell? ⟨sb, 1, none⟩ = some (.int .i64 0)
  lt : sb < W.heap.size
theorem FS.below {w W W' : World} {cb sb : Nat} {A : Option Addr} {c : Nat} (h : FS w cb sb A c W) (hb : Below W.heap.size W W') : FS w cb sb A c W' :=
  ⟨h.k.below hb, (hb.cell (p := ⟨sb, 0, none⟩) h.lt).trans h.s0, (hb.cell (p := ⟨sb, 1, none⟩) h.lt).trans h.s1, Nat.lt_of_lt_of_le h.lt hb.size⟩
set_option maxRecDepth 100000 in
set_option maxHeartbeats 4000000 in
theorem first20 (w : World) (hg : ErrT w) : Calls Tryd.prog 7 #[] w fun e w' => e = .returned (.bool true) ∧ Below w.heap.size w w' := by
  have HG := hid (And.intro hg hg.lt)
  clear hg
  go_enter Tryd.func7, Tryd.ntmps7
  go_wp2_with fail
  refine (pack_skip _).mono ?_
  rintro e w1 ⟨A, c, rfl, hy1, hb1⟩
  have K1 := hid (show FK w w1.heap.size A c (w1.alloc (.cells #[.int .i64 3, .slice A 0 c] 26)) from ⟨hb1.alloc hb1.size _, Blk.new _ _ _, hy1.alloc _⟩)
  clear hy1 hb1
  go_wp2_with fail
  generalize (w1.alloc (.cells #[.int .i64 3, .slice A 0 c] 26)) = w2 at *
  refine (pack_range _).mono ?_
  rintro e w3 ⟨A3, c3, rfl, hb3⟩
  have K3 := hid ((K1.out.below hb3).below ((Below.refl _ _).alloc (Nat.le_refl _) (.cells #[.int .i64 0, .slice A3 0 c3] 26)))
  clear hb3 K1
  go_wp2_with fail
  generalize (w3.alloc (.cells #[.int .i64 0, .slice A3 0 c3] 26)) = w4 at *
  refine (read_short _).mono ?_
  rintro e w5 ⟨A5, c5, rfl, hb5⟩
  have K5 := hid ((K3.out.below hb5).below ((Below.refl _ _).alloc (Nat.le_refl _) (.cells #[.int .i64 0, .int .i64 0, .slice A5 0 c5] 24)))
  clear hb5 K3
  go_wp2_with fail
  generalize (w5.alloc (.cells #[.int .i64 0, .int .i64 0, .slice A5 0 c5] 24)) = w6 at *
  refine (new_wr _).mono ?_
  rintro e w7 ⟨b1, F1, rfl, ha1, hf1, hb7⟩
  have K7 := hid (K5.out.below hb7)
  have W7 := hid ha1
  have FF := hid (And.intro (show ∀ k, F1 k → w.heap.size ≤ k from fun k hk => Nat.le_trans K5.out.bel.size (hf1 k hk)) (show ¬ F1 w1.heap.size from fun e => by have := hf1 _ e; have := K5.out.blk.lt; omega))
  clear ha1 hf1 hb7 K5
  go_wp2_with fail
  have hno : askNo true sqK1 = 13 := by decide
  have HB8 := hid (scode_bad b1 _ (reads_wr b1) true _ sqK1 0 0 0 0 nilS nilS nilS nilS nilS [] [] [] [] w7 (sq_zero w7 1 0) (by rw [hno]; decide))
  rw [hno, show codeV 13 = .iface 33 (.int .i64 13) from rfl] at HB8
  refine HB8.out.mono ?_
  rintro e w8 ⟨rfl, hb8⟩
  have W8 := hid ((wr_coder b1).keep _ _ F1 (fun _ => False) _ W7.out (Only.of_below (hb8.alloc hb8.size (.cells #[.int .i64 0, .int .i64 0, .int .i64 0, .int .i64 0, .int .i64 0, .int .i64 0, .int .i64 0, .int .i64 0, nilS, nilS, nilS, nilS, nilS] 60))) (fun _ _ h => h))
  have K8 := hid ((K7.out.below hb8).below ((Below.refl _ _).alloc (Nat.le_refl _) (.cells #[.int .i64 0, .int .i64 0, .int .i64 0, .int .i64 0, .int .i64 0, .int .i64 0, .int .i64 0, .int .i64 0, nilS, nilS, nilS, nilS, nilS] 60)))
  clear hno HB8 W7 K7 hb8
  unfold zeroV sqV
  go_wp2_with fail
  generalize (w8.alloc (.cells #[.int .i64 0, .int .i64 0, .int .i64 0, .int .i64 0, .int .i64 0, .int .i64 0, .int .i64 0, .int .i64 0, nilS, nilS, nilS, nilS, nilS] 60)) = w9 at *
  refine (wcode20 b1 false _ sqM2 0 0 0 0 nilS nilS nilS nilS nilS [] [] [] [] Wr.new w9 F1 0 (sq_zero w9 0 2) W8.out ok_wr_new (by omega) (by decide) (fun h => by cases h) (fun h => by rcases h with h | h <;> cases h)).mono ?_
  rintro e w10 ⟨F10, hc10, hans⟩
  rw [sqM2_told] at hans
  obtain ⟨v10, rfl, hv10⟩ := hans
  obtain ⟨n0, n1, n2, n3, nlv, nv0, nv1, nv2, nv3, nl0, nl1, nl2, nl3, rfl, _, _, q0, q1, q2, q3, q4⟩ := hv10
  obtain ⟨a0, k0, rfl⟩ := lst_form q0
  obtain ⟨a1, k1, rfl⟩ := lst_form q1
  obtain ⟨a2, k2, rfl⟩ := lst_form q2
  obtain ⟨a3, k3, rfl⟩ := lst_form q3
  obtain ⟨a4, k4, rfl⟩ := lst_form q4
  have K10 := hid (K8.out.only hc10.o FF.out.2 FF.out.1)
  have K11 := hid (show FS w w1.heap.size w10.heap.size A c (w10.alloc (.cells #[.int .i64 0, .int .i64 0, .int .i64 n0, .int .i64 n1, .int .i64 n2, .int .i64 n3, .int .i64 0, .int .i64 0, .slice a0 k0 k0, .slice a1 k1 k1, .slice a2 k2 k2, .slice a3 k3 k3, .slice a4 k4 k4] 60)) from
    ⟨K10.out.below ((Below.refl _ _).alloc (Nat.le_refl _) _), by rw [(Blk.new w10 60 _).cell]; rfl, by rw [(Blk.new w10 60 _).cell]; rfl, by simp⟩)
  clear hc10 q0 q1 q2 q3 q4 W8 K8 K10 FF
  rw [show (bareS 0).kind = 0 from rfl, show (bareS 0).mode = 0 from rfl, show (bareS 0).x = 0 from rfl, show (bareS 0).y = 0 from rfl]
  unfold sqV
  go_upto_region 9 with fail
  generalize (w10.alloc (.cells #[.int .i64 0, .int .i64 0, .int .i64 n0, .int .i64 n1, .int .i64 n2, .int .i64 n3, .int .i64 0, .int .i64 0, .slice a0 k0 k0, .slice a1 k1 k1, .slice a2 k2 k2, .slice a3 k3 k3, .slice a4 k4 k4] 60)) = w11 at *
  obtain ⟨c0, c1⟩ := K11.out.k.cells
  have hc12 := cost_any 3 (.slice A 0 c) [] w11 K11.out.k.byt (by simp)
  rw [show ((([] : List UInt8).length : Int) + 8) = 8 from rfl] at hc12
  have HC := hid hc12
  clear hc12
  go_wp2_with fail
  refine HC.out.mono ?_
  rintro e w12 ⟨rfl, hb12⟩
  have K12 := hid (K11.out.below hb12)
  clear hb12 HC c0 c1
  go_wp2_with fail
  refine (fail_any 3 _).mono ?_
  rintro e w13 ⟨rfl, hb⟩
  have K13 := hid (K12.out.below hb)
  clear hb
  go_wp2_with fail
  have HE3 := hid (err_same 3)
  rw [show codeV 3 = .iface 33 (.int .i64 3) from rfl] at HE3
  refine (HE3.out _ (by exact HG.out.1.below K13.out.k.bel HG.out.2)).mono ?_
  rintro e w14 ⟨rfl, hb⟩
  have K14 := hid (K13.out.below hb)
  clear hb HE3
  go_wp2_with fail
  refine (fail_any 1 _).mono ?_
  rintro e w15 ⟨rfl, hb⟩
  have K15 := hid (K14.out.below hb)
  clear hb
  go_wp2_with fail
  have HE1 := hid (err_same 1)
  rw [show codeV 1 = .iface 33 (.int .i64 1) from rfl] at HE1
  refine (HE1.out _ (by exact HG.out.1.below K15.out.k.bel HG.out.2)).mono ?_
  rintro e w16 ⟨rfl, hb⟩
  have K16 := hid (K15.out.below hb)
  clear hb HE1
  go_wp2_with fail
  refine (fail_any 13 _).mono ?_
  rintro e w17 ⟨rfl, hb⟩
  have K17 := hid (K16.out.below hb)
  clear hb
  go_wp2_with fail
  have HE13 := hid (err_same 13)
  rw [show codeV 13 = .iface 33 (.int .i64 13) from rfl] at HE13
  refine (HE13.out _ (by exact HG.out.1.below K17.out.k.bel HG.out.2)).mono ?_
  rintro e w18 ⟨rfl, hb⟩
  have K18 := hid (K17.out.below hb)
  clear hb HE13
  have s0 := K18.out.s0
  have s1 := K18.out.s1
  go_wp2_with fail
  go_ret
  exact ⟨rfl, K18.out.k.bel⟩
end Go.Proofs.YtkkgpdejmcpcpaaDoor

/- unit.Sum, kinref4.Sum: walks. -/
namespace Go.Proofs.YtkkgpdejmcpcpaaDoor
open Go.RowKit

theorem and1_u32 {a : Nat} (ha : a < 4294967296) : bits .and .u32 (a : Int) 1 = ((a % 2 : Nat) : Int) := by
  have h : bits .and .u32 (a : Int) ((1 : Nat) : Int) = ((a &&& 1 : Nat) : Int) := u32_and_nat _ _ ha (by omega)
  rw [nat_mask1] at h
  exact h
theorem xorPoly_u32 {a : Nat} (ha : a < 4294967296) : bits .xor .u32 (a : Int) 3988292384 = ((a ^^^ 3988292384 : Nat) : Int) := by
  have h : bits .xor .u32 (a : Int) ((3988292384 : Nat) : Int) = ((a ^^^ 3988292384 : Nat) : Int) := u32_xor_nat _ _ ha (by decide)
  exact h
theorem xorByte_u32 {a v : Nat} (ha : a < 4294967296) (hv : v < 256) : bits .xor .u32 (a : Int) (v : Int) = ((a ^^^ v : Nat) : Int) := u32_xor_nat _ _ ha (by omega)

theorem crcBit_even {D : Nat} (h : D % 2 = 0) : (((crcBit D : Nat)) : Int) = (D : Int) / 2 := by unfold crcBit; rw [if_neg (by omega)]; omega
theorem crcBit_odd {D : Nat} (hD : D < 4294967296) (h : D % 2 = 1) : (((crcBit D : Nat)) : Int) = bits .xor .u32 ((D : Int) / 2) 3988292384 := by
  unfold crcBit
  rw [if_pos h, ← xorPoly_u32 (by omega)]
  congr 1
theorem not_u32 {a : Nat} (ha : a < 4294967296) : bits .xor .u32 IntKind.u32.max (a : Int) = ((4294967295 ^^^ a : Nat) : Int) := by
  have h : bits .xor .u32 ((4294967295 : Nat) : Int) (a : Int) = ((4294967295 ^^^ a : Nat) : Int) := u32_xor_nat _ _ (by decide) ha
  exact h
set_option maxRecDepth 100000 in
set_option maxHeartbeats 1000000 in
theorem usum_any (x : Value) (bs : List UInt8) (w : World) (hx : Byt w x bs) (hl : bs.length ≤ 1000000000) :
    Calls Tryd.prog 46 #[x] w fun e w' => e = .returned (.int .u32 (sumOf bs)) ∧ w = w' := by
  obtain ⟨A, c, rfl, hc⟩ := hx.form
  have X := hid hx
  clear hx
  go_enter Tryd.func46, Tryd.ntmps46
  go_wp2_with fail
  go_loopg [3, 8] bs.length (fun k cv i wr => ∃ j : Nat, j + k = bs.length ∧ i = .int .i64 j ∧ cv = .int .u32 (crcFrom 4294967295 (bs.take j)) ∧ wr = w)
  case atStart => exact ⟨0, by omega, rfl, rfl, rfl⟩
  case round =>
    obtain ⟨j, hj, rfl, rfl, rfl⟩ := hrel
    by_cases hlt : j < bs.length
    · obtain ⟨b, off, u, rfl, hb, hu, c0⟩ := X.out.at_ hlt
      have ht : crcFrom 4294967295 (bs.take (j + 1)) = crcByte (crcFrom 4294967295 (bs.take j)) u := by
        rw [List.take_add_one, hu, crcFrom_append]
        rfl
      have hcl := crcFrom_lt (bs.take j) (c := 4294967295) (by omega)
      generalize hC : crcFrom 4294967295 (bs.take j) = C at *
      have hu2 := u.toNat_lt
      have HT := hid (And.intro ht (And.intro hC (And.intro hu hj)))
      have x1 := xorByte_u32 hcl hu2
      have hm := crcMix_lt hcl u
      clear ht hC hu hj
      go_wp2_with fail
      obtain ⟨g0, rfl⟩ : ∃ g0, g0 = gk := ⟨_, rfl⟩
      obtain ⟨wo, rfl⟩ : ∃ wo, wo = wr := ⟨_, rfl⟩
      generalize hM : C ^^^ u.toNat = M at *
      have HM := hid hM
      clear hM x1
      go_loopg [3, 16] 8 (fun k cv i wr2 => ∃ m : Nat, m + k = 8 ∧ i = .int .i64 m ∧ cv = .int .u32 (crcBits m M) ∧ wr2 = wo)
      case atStart => exact ⟨0, rfl, rfl, rfl, rfl⟩
      case round =>
        obtain ⟨m, hm8, rfl, rfl, rfl⟩ := hrel
        by_cases hl8 : m < 8
        · have hD := crcBits_lt m hm
          have hs : crcBits (m + 1) M = crcBit (crcBits m M) := rfl
          generalize hDD : crcBits m M = D at *
          have HD := hid (And.intro hs hDD)
          have d0 : (0 : Int) ≤ (D : Int) := by omega
          have d1 : (D : Int) < 4294967296 := by omega
          have a1 := and1_u32 hD
          clear hs hDD
          rcases Nat.mod_two_eq_zero_or_one D with hp | hp
          · rw [hp] at a1
            have HP := hid (And.intro (crcBit_even hp) (And.intro hD hm8))
            simp only [Int.natCast_zero] at a1
            clear hp hD d1 hm hcl hu2
            go_wp2_with fail
            have h8 := HP.out.2.2
            go_roundg (gk - 1)
            case measure => omega
            case rel => exact ⟨m + 1, by omega, by go_num, by rw [HD.out.1, HP.out.1], rfl⟩
          · rw [hp] at a1
            have HP := hid (And.intro (crcBit_odd hD hp) (And.intro hD hm8))
            simp only [Int.natCast_one] at a1
            clear hp hD d1 hm hcl hu2
            go_wp2_with fail
            have h8 := HP.out.2.2
            go_roundg (gk - 1)
            case measure => omega
            case rel => exact ⟨m + 1, by omega, by go_num, by rw [HD.out.1, HP.out.1], rfl⟩
        · obtain rfl : m = 8 := by omega
          go_wp2_with fail
          have hj := HT.out.2.2.2
          go_roundg (g0 - 1)
          case measure => omega
          case rel => exact ⟨j + 1, by omega, by go_num, by rw [HT.out.1]; unfold crcByte; rw [HM.out], rfl⟩
    · obtain rfl : j = bs.length := by omega
      have hn := not_u32 (crcFrom_lt bs (c := 4294967295) (by omega))
      have HN := hid hn
      rw [List.take_length]
      clear hn hlt hj
      go_wp2_with fail
      go_ret
      exact ⟨congrArg (fun z => Ending.returned (.int .u32 z)) HN.out, rfl⟩
end Go.Proofs.YtkkgpdejmcpcpaaDoor

/- unit.Make: the walk. -/
namespace Go.Proofs.YtkkgpdejmcpcpaaDoor
open Go.RowKit

theorem byte_div (n d : Nat) : IntKind.u8.wrap ((n : Int) / (d : Int)) = (((UInt8.ofNat (n / d)).toNat : Nat) : Int) := by
  rw [show ((n : Int) / (d : Int)) = ((n / d : Nat) : Int) by simp, wu8]
  simp
theorem byte_self (n : Nat) : IntKind.u8.wrap (n : Int) = (((UInt8.ofNat n).toNat : Nat) : Int) := by rw [wu8]; simp
def MadeRes (bs : List UInt8) (w : World) (e : Ending) (w' : World) : Prop :=
  ∃ g cap, e = .returned (.tuple #[.slice (some ⟨g, 0, none⟩) bs.length cap, .nilIface]) ∧ w'.ownsRow w.heap.size 5 1 (.slice (some ⟨g, 0, none⟩) bs.length cap) bs.length (bs.map byteV) ∧ Below w.heap.size w w'
theorem make_no (k : Int) (x : Value) (bs : List UInt8) (w : World) (hx : Byt w x bs) (hn : makeNo k bs.length ≠ 0) :
    Calls Tryd.prog 27 #[.int .i64 k, x] w fun e w' => e = .returned (.tuple #[.slice none 0 0, .iface 33 (.int .i64 (makeNo k bs.length))]) ∧ w = w' := by
  obtain ⟨A, c, rfl, hc⟩ := hx.form
  clear hx
  unfold makeNo at *
  by_cases h1 : k < 0
  · rw [if_pos (.inl h1)]
    clear hn
    go_enter Tryd.func27, Tryd.ntmps27
    go_wp2_with fail
    go_ret2
    exact ⟨rfl, rfl⟩
  · by_cases h2 : 255 < k
    · rw [if_pos (.inr (.inl h2))]
      clear hn
      go_enter Tryd.func27, Tryd.ntmps27
      go_wp2_with fail
      go_ret2
      exact ⟨rfl, rfl⟩
    · by_cases h3 : k = 0 ∧ 0 < bs.length
      · rw [if_pos (.inr (.inr h3))]
        clear hn
        obtain ⟨rfl, h4⟩ := h3
        go_enter Tryd.func27, Tryd.ntmps27
        go_wp2_with fail
        go_ret2
        exact ⟨rfl, rfl⟩
      · rw [if_neg (by omega)] at hn ⊢
        by_cases h4 : 65536 < bs.length
        · rw [if_pos h4]
          have h5 : k ≠ 0 := by omega
          have h6 : (k == 0) = false := by simpa using h5
          have h7 : decide (65536 < (bs.length : Int)) = true := by simp; omega
          clear hn h3
          go_enter Tryd.func27, Tryd.ntmps27
          go_wp2_with fail
          go_ret2
          exact ⟨rfl, rfl⟩
        · rw [if_neg h4] at hn
          exact absurd rfl hn
theorem made_fill (x : Value) (w : World) (hx : Byt w x []) : Calls Tryd.prog 27 #[.int .i64 0, x] w (MadeRes [0] w) := by
  obtain ⟨A, c, rfl, hc⟩ := hx.form
  clear hx
  go_enter Tryd.func27, Tryd.ntmps27
  go_wp2_with fail
  go_ret2
  exact ⟨w.heap.size, 1, rfl, World.ownsRow_lit w #[.int .u8 0] 1 (Nat.le_refl _) (by unfold maxLen; omega) rfl, (Below.refl _ _).alloc (Nat.le_refl _) _⟩
set_option maxRecDepth 100000 in
set_option maxHeartbeats 1600000 in
theorem made_unit (k : Nat) (x : Value) (bs : List UInt8) (w : World) (hx : Byt w x bs) (hk1 : 1 ≤ k) (hk2 : k ≤ 255) (hl : bs.length ≤ 65536) :
    Calls Tryd.prog 27 #[.int .i64 k, x] w (MadeRes (unitBytes k bs) w) := by
  obtain ⟨i0, hi0, hz0, hz1, hz2⟩ := info_parts info_u8
  have IP := hid (And.intro hi0 (And.intro hz0 (And.intro hz1 hz2)))
  clear hi0 hz0 hz1 hz2
  obtain ⟨A, c, rfl, hc⟩ := hx.form
  have X := hid hx
  clear hx
  have hk0 : ((k : Int) == 0) = false := by simp; omega
  have t1 : decide ((k : Int) < 0) = false := by simp
  have t2 : decide (255 < (k : Int)) = false := by simp; omega
  have t3 : decide (65536 < (bs.length : Int)) = false := by simp; omega
  have p1 : IntKind.u8.wrap ((bs.length : Int) / 65536) = (((UInt8.ofNat (bs.length / 65536)).toNat : Nat) : Int) := byte_div bs.length 65536
  have p2 : IntKind.u8.wrap ((bs.length : Int) / 256) = (((UInt8.ofNat (bs.length / 256)).toNat : Nat) : Int) := byte_div bs.length 256
  have p3 := byte_self bs.length
  have p4 : IntKind.u8.wrap (k : Int) = (k : Int) := by rw [wu8]; omega
  have q1 : (bs.length : Int) / 65536 = (((UInt8.ofNat (bs.length / 65536)).toNat : Nat) : Int) := by simp; omega
  have q4 : (k : Int) = (((UInt8.ofNat k).toNat : Nat) : Int) := by simp; omega
  have h4 : unitHd k bs = [UInt8.ofNat k, UInt8.ofNat (bs.length / 65536), UInt8.ofNat (bs.length / 256), UInt8.ofNat bs.length] ++ bs := rfl
  have hlen : (unitHd k bs).length = bs.length + 4 := by rw [h4]; simp
  have Q4 := hid (And.intro q4 (And.intro h4 hlen))
  clear q4 h4 hlen
  generalize UInt8.ofNat (bs.length / 65536) = c1 at *
  generalize UInt8.ofNat (bs.length / 256) = c2 at *
  generalize UInt8.ofNat bs.length = c3 at *
  go_enter Tryd.func27, Tryd.ntmps27
  go_wp2_with (first
    | (at_builtin
       (refine wpList_append_form _ rfl (.tmp 47) (.tmp 48) _ rfl w.heap.size 5 i0 (.int .u8 0) 1 1 Tryd.underlying22 IP.out.1 IP.out.2.1 IP.out.2.2.1 IP.out.2.2.2 rfl (by omega) (.slice (some ⟨w.heap.size, 0, none⟩) 4 4) 4 [.int .u8 k, .int .u8 c1.toNat, .int .u8 c2.toNat, .int .u8 c3.toNat] rfl (by exact World.ownsRow_lit (size := 1) (base := w.heap.size) (e := 5) w #[.int .u8 k, .int .u8 c1.toNat, .int .u8 c2.toNat, .int .u8 c3.toNat] 4 (Nat.le_refl _) (by unfold maxLen; omega) rfl) (.slice A bs.length c) bs.length (bs.map byteV) rfl (by exact (X.out.alloc _).from_) (one_bytes bs) (.inl (by simp [Value.ownBlock])) (by unfold maxLen; omega) (by omega) (by simp) (unitHd k bs).length ((unitHd k bs).map byteV) (by rw [Q4.out.2.2]; omega) (by rw [Q4.out.2.1, Q4.out.1]; rfl) ?_)
       intro g cap w2 hown hgrow hat hlt
       have hbel : Below w.heap.size w w2 := ((Below.refl _ _).alloc (Nat.le_refl _) _).grown hgrow (by simp) (fun k hk => by simp [Value.ownBlock] at hk; omega)
       have H := hid (And.intro hown hbel)
       clear hown hgrow hat hlt hbel p1 p2 p3 q1)
    | (go_at_call 46
       (refine (usum_any _ (unitHd k bs) _ (by exact Byt.of_own H.out.1 rfl) (by rw [Q4.out.2.2]; omega)).mono ?_)
       rintro e w3 ⟨rfl, rfl⟩
       have r1 : IntKind.u8.wrap (((sumOf (unitHd k bs) : Nat) : Int) / 16777216) = (((UInt8.ofNat (sumOf (unitHd k bs) / 16777216)).toNat : Nat) : Int) := byte_div (sumOf (unitHd k bs)) 16777216
       have r2 : IntKind.u8.wrap (((sumOf (unitHd k bs) : Nat) : Int) / 65536) = (((UInt8.ofNat (sumOf (unitHd k bs) / 65536)).toNat : Nat) : Int) := byte_div (sumOf (unitHd k bs)) 65536
       have r3 : IntKind.u8.wrap (((sumOf (unitHd k bs) : Nat) : Int) / 256) = (((UInt8.ofNat (sumOf (unitHd k bs) / 256)).toNat : Nat) : Int) := byte_div (sumOf (unitHd k bs)) 256
       have r4 := byte_self (sumOf (unitHd k bs))
       have hq : unitBytes k bs = unitHd k bs ++ [UInt8.ofNat (sumOf (unitHd k bs) / 16777216), UInt8.ofNat (sumOf (unitHd k bs) / 65536), UInt8.ofNat (sumOf (unitHd k bs) / 256), UInt8.ofNat (sumOf (unitHd k bs))] := by
         unfold unitBytes
         rw [if_neg (by omega)]
         rfl
       have hq2 : (unitBytes k bs).length = bs.length + 8 := by rw [hq, List.length_append, Q4.out.2.2]; rfl
       have HQ := hid (And.intro hq hq2)
       clear hq hq2
       generalize UInt8.ofNat (sumOf (unitHd k bs) / 16777216) = s1 at *
       generalize UInt8.ofNat (sumOf (unitHd k bs) / 65536) = s2 at *
       generalize UInt8.ofNat (sumOf (unitHd k bs) / 256) = s3 at *
       generalize UInt8.ofNat (sumOf (unitHd k bs)) = s4 at *
       generalize sumOf (unitHd k bs) = S at *)
    | (at_builtin
       (refine wpList_append_form _ rfl (.tmp 52) (.tmp 64) _ rfl w.heap.size 5 i0 (.int .u8 0) 1 1 Tryd.underlying22 IP.out.1 IP.out.2.1 IP.out.2.2.1 IP.out.2.2.2 rfl (by omega) (.slice (some ⟨g, 0, none⟩) (unitHd k bs).length cap) (unitHd k bs).length ((unitHd k bs).map byteV) rfl (by exact H.out.1.alloc _) (.slice (some ⟨w2.heap.size, 0, none⟩) 4 4) 4 ([s1, s2, s3, s4].map byteV) rfl (by exact from_block (Blk.new w2 5 #[.int .u8 s1.toNat, .int .u8 s2.toNat, .int .u8 s3.toNat, .int .u8 s4.toNat]) rfl) (one_bytes _) (.inl (by simp [Value.ownBlock])) (by rw [Q4.out.2.2]; unfold maxLen; omega) (by rw [Q4.out.2.2]; omega) (by have := H.out.2.size; simp; omega) (unitBytes k bs).length ((unitBytes k bs).map byteV) (by rw [HQ.out.2, Q4.out.2.2]) (by rw [HQ.out.1, List.map_append]) ?_)
       intro g2 cap2 w4 hown hgrow hat hlt
       have hbel : Below w.heap.size w w4 := (H.out.2.alloc H.out.2.size _).grown hgrow (by have := H.out.2.size; simp; omega) (fun k hk => by have := (H.out.1.lt k hk).1; omega)
       have K := hid (And.intro hown hbel)
       clear hown hgrow hat hlt hbel r1 r2 r3 r4))
  go_ret2
  exact ⟨g2, cap2, rfl, K.out.1, K.out.2⟩
end Go.Proofs.YtkkgpdejmcpcpaaDoor

/- SyntaxPairs: plain; the walk. -/
namespace Go.Proofs.YtkkgpdejmcpcpaaDoor
open Go.RowKit

theorem pack_zero {k q : Int} {n : Nat} (h : packNo k q n = 0) : (1 ≤ k ∧ k ≤ 4) ∧ (0 ≤ q ∧ q ≤ 15) ∧ (2 < k → q = 0 ∧ n = 0) ∧ n < 65536 := by
  unfold packNo at h
  by_cases h1 : k < 1 ∨ 4 < k
  · rw [if_pos h1] at h; omega
  · rw [if_neg h1] at h
    by_cases h2 : q < 0 ∨ 15 < q
    · rw [if_pos h2] at h; omega
    · rw [if_neg h2] at h
      by_cases h3 : 2 < k ∧ (q ≠ 0 ∨ 0 < n)
      · rw [if_pos h3] at h; omega
      · rw [if_neg h3] at h
        by_cases h4 : 65536 ≤ n
        · rw [if_pos h4] at h; omega
        · exact ⟨by omega, by omega, fun e => by omega, by omega⟩
/-- What Pack makes, Read tells. -/
theorem read_pack {k q : Int} {bs : List UInt8} (h : packNo k q bs.length = 0) : readNo k (packB k q bs) = 0 ∧ readQ k (packB k q bs) = q ∧ readB k (packB k q bs) = bs ∧ (packB k q bs).length ≤ 65536 := by
  obtain ⟨h1, h2, h3, h4⟩ := pack_zero h
  by_cases hk : 2 < k
  · obtain ⟨rfl, hb⟩ := h3 hk
    have hb0 : bs = [] := List.eq_nil_of_length_eq_zero hb
    subst hb0
    unfold readNo readQ readB packB
    rw [if_pos hk, if_neg (by omega), if_pos hk, if_pos hk, if_pos hk]
    exact ⟨rfl, rfl, rfl, by simp⟩
  · obtain ⟨n, rfl⟩ : ∃ n : Nat, q = (n : Int) := ⟨q.toNat, by omega⟩
    have hu : (UInt8.ofNat n).toNat = n := by simp; omega
    unfold readNo readQ readB packB
    rw [if_neg hk, if_neg (by omega), if_neg hk, if_neg hk, if_neg hk, Int.toNat_natCast]
    have hg : (UInt8.ofNat n :: bs).getD 0 0 = UInt8.ofNat n := rfl
    rw [hg, hu, if_neg (by simp), if_neg (by omega), if_neg (by simp; omega)]
    exact ⟨rfl, rfl, rfl, by simp; omega⟩
theorem pack_read {k : Int} {bs : List UInt8} (h : readNo k bs = 0) : packNo k (readQ k bs) (readB k bs).length = 0 ∧ packB k (readQ k bs) (readB k bs) = bs ∧ bs.length ≤ 65536 := by
  unfold readNo at h
  by_cases h1 : k < 1 ∨ 4 < k
  · rw [if_pos h1] at h; omega
  · rw [if_neg h1] at h
    by_cases hk : 2 < k
    · rw [if_pos hk] at h
      by_cases hb : 0 < bs.length
      · rw [if_pos hb] at h; omega
      · have hb0 : bs = [] := List.eq_nil_of_length_eq_zero (by omega)
        subst hb0
        unfold readQ readB packNo packB
        rw [if_pos hk, if_pos hk, if_pos hk, if_neg h1, if_neg (by omega), if_neg (by simp), if_neg (by simp)]
        exact ⟨rfl, rfl, by simp⟩
    · rw [if_neg hk] at h
      by_cases hb : bs.length = 0
      · rw [if_pos hb] at h; omega
      · rw [if_neg hb] at h
        obtain ⟨u, r, rfl⟩ : ∃ u r, bs = u :: r := by
          cases bs with
          | nil => exact absurd rfl hb
          | cons u r => exact ⟨u, r, rfl⟩
        have hg : (u :: r).getD 0 0 = u := rfl
        rw [hg] at h
        by_cases h5 : 15 < u.toNat
        · rw [if_pos h5] at h; omega
        · rw [if_neg h5] at h
          by_cases h6 : 65536 < (u :: r).length
          · rw [if_pos h6] at h; omega
          · have h7 : (u :: r).length = r.length + 1 := rfl
            unfold readQ readB packNo packB
            rw [if_neg hk, if_neg hk, if_neg hk, hg, if_neg h1, if_neg (by omega), if_neg (by omega)]
            show (if 65536 ≤ (List.drop 1 (u :: r)).length then (5 : Int) else 0) = 0 ∧ UInt8.ofNat ((u.toNat : Nat) : Int).toNat :: List.drop 1 (u :: r) = u :: r ∧ _
            rw [Int.toNat_natCast, UInt8.ofNat_toNat, if_neg (by show ¬ 65536 ≤ r.length; omega)]
            exact ⟨rfl, rfl, by omega⟩
set_option maxRecDepth 100000 in
theorem coded_same (k : Int) (x y : Value) (bs : List UInt8) (w : World) (hx : Byt w x bs) (hy : Byt w y bs) :
    Calls Tryd.prog 13 #[.agg #[.int .i64 k, x], .agg #[.int .i64 k, y]] w fun e w' => e = .returned (.bool true) ∧ Below w.heap.size w w' := by
  have B2 := hid (show Below w.heap.size w ((w.alloc (.cells #[.int .i64 k, x] 26)).alloc (.cells #[.int .i64 k, y] 26)) from ((Below.refl _ _).alloc (Nat.le_refl _) _).alloc (by simp) _)
  have HY := hid (fun W (hb : Below w.heap.size w W) => bytes_same (hx.below hb).from_ (hy.below hb).from_)
  obtain ⟨A, c, rfl, _⟩ := hx.form
  obtain ⟨A2, c2, rfl, _⟩ := hy.form
  clear hx hy
  go_enter Tryd.func13, Tryd.ntmps13
  go_wp2_with fail
  refine (HY.out _ B2.out).mono ?_
  rintro e w2 ⟨rfl, rfl⟩
  go_wp2_with fail
  go_ret
  exact ⟨rfl, B2.out⟩
/-- The two arguments in their boxes. -/
structure HC (w : World) (k q : Int) (x : Value) (bs : List UInt8) (kc : Int) (xc : Value) (bc : List UInt8) (W : World) : Prop where
  bel : Below w.heap.size w W
  b2 : Blk W w.heap.size 24 #[.int .i64 k, .int .i64 q, x]
  b3 : Blk W (w.heap.size + 1) 26 #[.int .i64 kc, xc]
  y2 : Byt W x bs
  y3 : Byt W xc bc
section
variable {w W W' : World} {k q : Int} {x : Value} {bs : List UInt8} {kc : Int} {xc : Value} {bc : List UInt8}
theorem HC.below (h : HC w k q x bs kc xc bc W) (hb : Below W.heap.size W W') : HC w k q x bs kc xc bc W' := ⟨h.bel.trans (hb.mono h.bel.size), h.b2.below hb h.b2.lt, h.b3.below hb h.b3.lt, h.y2.below hb, h.y3.below hb⟩
theorem HC.cells (h : HC w k q x bs kc xc bc W) : (W.cell? ⟨w.heap.size, 0, none⟩ = some (.int .i64 k) ∧ W.cell? ⟨w.heap.size, 1, none⟩ = some (.int .i64 q) ∧ W.cell? ⟨w.heap.size, 2, none⟩ = some x) ∧ W.cell? ⟨w.heap.size + 1, 0, none⟩ = some (.int .i64 kc) ∧ W.cell? ⟨w.heap.size + 1, 1, none⟩ = some xc :=
  ⟨⟨by simpa using h.b2.cell 0, by simpa using h.b2.cell 1, by simpa using h.b2.cell 2⟩, by simpa using h.b3.cell 0, by simpa using h.b3.cell 1⟩
theorem HC.alloc (h : HC w k q x bs kc xc bc W) (o : Obj) : HC w k q x bs kc xc bc (W.alloc o) := h.below ((Below.refl _ _).alloc (Nat.le_refl _) _)
end
end Go.Proofs.YtkkgpdejmcpcpaaDoor

