/- Chapter 26, keys: the bytes of a configuration; the walks of the keys. -/
import Derived.Test.YtabklmkdneoaaaaDoorGKeyA
namespace Go.Proofs.YtabklmkdneoaaaaDoor
open Go.RowKit

/-- The bytes of a configuration. -/
def confHead (c0 c1 c2 c3 c4 : Nat) : List UInt8 := [UInt8.ofNat c0, UInt8.ofNat c1, UInt8.ofNat c2, UInt8.ofNat c4, UInt8.ofNat (c3 / 256), UInt8.ofNat c3]
def confBytes (c0 c1 c2 c3 c4 c5 c6 c7 : Nat) : List UInt8 := ((confHead c0 c1 c2 c3 c4 ++ quad c5) ++ quad c6) ++ quad c7
theorem confBytes_len (c0 c1 c2 c3 c4 c5 c6 c7 : Nat) : (confBytes c0 c1 c2 c3 c4 c5 c6 c7).length = 18 := rfl
theorem conf_cells {W : World} {b : Nat} {c0 c1 c2 c3 c4 c5 c6 c7 : Nat} (h : Blk W b 116 #[.int .i64 c0, .int .i64 c1, .int .i64 c2, .int .i64 c3, .int .i64 c4, .int .i64 c5, .int .i64 c6, .int .i64 c7]) :
    W.cell? ⟨b, 0, none⟩ = some (.int .i64 c0) ∧ W.cell? ⟨b, 1, none⟩ = some (.int .i64 c1) ∧ W.cell? ⟨b, 2, none⟩ = some (.int .i64 c2) ∧ W.cell? ⟨b, 3, none⟩ = some (.int .i64 c3) ∧ W.cell? ⟨b, 4, none⟩ = some (.int .i64 c4) ∧ W.cell? ⟨b, 5, none⟩ = some (.int .i64 c5) ∧ W.cell? ⟨b, 6, none⟩ = some (.int .i64 c6) ∧ W.cell? ⟨b, 7, none⟩ = some (.int .i64 c7) := by
  refine ⟨?_, ?_, ?_, ?_, ?_, ?_, ?_, ?_⟩ <;> (rw [h.cell]; rfl)
/-- What a key answers. -/
def keyOf (c : ConfS) (bs : List UInt8) : Int := if mayC c then ((sumOf (confBytes c.qmin.toNat c.qmax.toNat c.reach.toNat c.cut.toNat c.gop.toNat c.rate.toNat c.room.toNat c.fill.toNat ++ bs) : Nat) : Int) else 0
def keyNo (c : ConfS) : Int := if mayC c then 0 else 11
set_option maxRecDepth 100000 in
set_option maxHeartbeats 2000000 in
theorem gkey_bad (c : ConfS) (x : Value) (w : World) (hm : mayC c = false) : Calls Tryd.prog 67 #[c.val, x] w fun e w' => e = .returned (.tuple #[.int .i64 0, .iface 29 (.int .i64 11)]) ∧ Below w.heap.size w w' := by
  have HC := hid (fun W => vcheck_any c W)
  rw [hm] at HC
  simp only [Bool.false_eq_true, if_false, show codeV 11 = .iface 29 (.int .i64 11) from rfl] at HC
  have hb : Below w.heap.size w (w.alloc (.cells #[.int .i64 c.qmin, .int .i64 c.qmax, .int .i64 c.reach, .int .i64 c.cut, .int .i64 c.gop, .int .i64 c.rate, .int .i64 c.room, .int .i64 c.fill] 116)) := (Below.refl _ _).alloc (Nat.le_refl _) _
  have HB := hid hb
  clear hb hm
  unfold ConfS.val at *
  go_enter Tryd.func67, Tryd.ntmps67
  go_wp2_with fail
  refine (HC.out _).mono ?_
  rintro e w2 ⟨rfl, h2⟩
  go_wp2_with fail
  go_ret2
  exact ⟨rfl, HB.out.trans (h2.mono HB.out.size)⟩
/-- log.put: with the lengths written out. -/
theorem gput_n (bv : Value) (xs : List UInt8) (v B n m : Nat) (w : World) (hm : m = n + 4) (hn : xs.length = n) (hown : w.ownsRow B 5 1 bv n (xs.map byteV)) (hB : B ≤ w.heap.size) (hv : v < 4294967296) (h1 : n ≤ 1000) :
    Calls Tryd.prog 97 #[bv, .int .i64 v] w fun e w' => ∃ A c, e = .returned (.slice A m c) ∧ w'.ownsRow B 5 1 (.slice A m c) m ((xs ++ quad v).map byteV) ∧ Below B w w' ∧ B ≤ w'.heap.size ∧ (xs ++ quad v).length = m := by
  subst hn hm
  refine (gput_any bv xs v B w hown hB hv h1).mono ?_
  rintro e w' ⟨A, c, rfl, ho, hb, hs⟩
  have e : (xs ++ quad v).length = xs.length + 4 := by rw [List.length_append]; rfl
  rw [e] at ho
  exact ⟨A, c, rfl, ho, hb, hs, e⟩
set_option maxRecDepth 100000 in
set_option maxHeartbeats 4000000 in
theorem gkey_ok (c0 c1 c2 c3 c4 c5 c6 c7 : Nat) (x : Value) (bs : List UInt8) (w : World) (hm : mayC ⟨c0, c1, c2, c3, c4, c5, c6, c7⟩ = true) (hl : c3 ≤ 16320 ∧ c5 ≤ 16384 ∧ c6 ≤ 16384 ∧ c7 ≤ 16384) (hx : Byt w x bs) (hbl : bs.length ≤ 1000000) :
    Calls Tryd.prog 67 #[(⟨c0, c1, c2, c3, c4, c5, c6, c7⟩ : ConfS).val, x] w fun e w' => e = .returned (.tuple #[.int .i64 ((sumOf (confBytes c0 c1 c2 c3 c4 c5 c6 c7 ++ bs) : Nat) : Int), .nilIface]) ∧ Below w.heap.size w w' := by
  obtain ⟨i0, hi0, hz0, hz1, hz2⟩ := info_parts info_u8
  have IP := hid (And.intro hi0 (And.intro hz0 (And.intro hz1 hz2)))
  obtain ⟨A, c, rfl, hc⟩ := hx.form
  have HC := hid (fun W => vcheck_any ⟨c0, c1, c2, c3, c4, c5, c6, c7⟩ W)
  rw [hm] at HC
  simp only [if_true, show codeV 0 = .nilIface from rfl] at HC
  have hSL := sumOf_lt (confBytes c0 c1 c2 c3 c4 c5 c6 c7 ++ bs)
  have HS := hid (fun W y (hy : Byt W y (confBytes c0 c1 c2 c3 c4 c5 c6 c7 ++ bs)) => usum_any y _ W hy (by rw [List.length_append, confBytes_len]; omega))
  generalize sumOf (confBytes c0 c1 c2 c3 c4 c5 c6 c7 ++ bs) = sm at *
  have B0 := hid (And.intro (Blk.new w 116 #[.int .i64 c0, .int .i64 c1, .int .i64 c2, .int .i64 c3, .int .i64 c4, .int .i64 c5, .int .i64 c6, .int .i64 c7]) ((Below.refl w.heap.size w).alloc (Nat.le_refl _) (.cells #[.int .i64 c0, .int .i64 c1, .int .i64 c2, .int .i64 c3, .int .i64 c4, .int .i64 c5, .int .i64 c6, .int .i64 c7] 116)))
  have X := hid hx
  have HL := hid (And.intro hl hbl)
  have q0 := byte_self c0
  have q1 := byte_self c1
  have q2 := byte_self c2
  have q3 := byte_self c3
  have q4 := byte_self c4
  have q5 : IntKind.u8.wrap ((c3 : Int) / 256) = (((UInt8.ofNat (c3 / 256)).toNat : Nat) : Int) := byte_div c3 256
  have QH := hid (show confHead c0 c1 c2 c3 c4 = [UInt8.ofNat c0, UInt8.ofNat c1, UInt8.ofNat c2, UInt8.ofNat c4, UInt8.ofNat (c3 / 256), UInt8.ofNat c3] from rfl)
  have QB := hid (show confBytes c0 c1 c2 c3 c4 c5 c6 c7 = ((confHead c0 c1 c2 c3 c4 ++ quad c5) ++ quad c6) ++ quad c7 from rfl)
  have hhl : (confHead c0 c1 c2 c3 c4).length = 6 := rfl
  have hcl := confBytes_len c0 c1 c2 c3 c4 c5 c6 c7
  generalize confBytes c0 c1 c2 c3 c4 c5 c6 c7 = cb at *
  generalize confHead c0 c1 c2 c3 c4 = ch at *
  generalize UInt8.ofNat c0 = d0 at *
  generalize UInt8.ofNat c1 = d1 at *
  generalize UInt8.ofNat c2 = d2 at *
  generalize UInt8.ofNat (c3 / 256) = d5 at *
  generalize UInt8.ofNat c3 = d3 at *
  generalize UInt8.ofNat c4 = d4 at *
  have HH := hid (And.intro hhl (And.intro hcl hSL))
  unfold ConfS.val at *
  dsimp only at *
  clear hi0 hz0 hz1 hz2 hx hc hl hbl hm hhl hcl
  go_enter Tryd.func67, Tryd.ntmps67
  go_wp2_with fail
  refine (HC.out _).mono ?_
  rintro e w2 ⟨rfl, h2⟩
  have B2 := hid (And.intro (B0.out.1.below h2 B0.out.1.lt) (B0.out.2.trans (h2.mono B0.out.2.size)))
  have Z2 := hid B2.out.1.lt
  clear h2
  obtain ⟨e0, e1, e2, e3, e4, e5, e6, e7⟩ := conf_cells B2.out.1
  have hz := Z2.out
  go_wp2_with fail
  have hba : Below w2.heap.size w2 (w2.alloc (.cells #[.int .u8 d0.toNat, .int .u8 d1.toNat, .int .u8 d2.toNat, .int .u8 d4.toNat, .int .u8 d5.toNat, .int .u8 d3.toNat] 5)) := (Below.refl _ _).alloc (Nat.le_refl _) _
  have hob := own_lits w2 w2.heap.size (Nat.le_refl _) ch (by rw [HH.out.1]; omega) 6 6 HH.out.1.symm HH.out.1.symm #[.int .u8 d0.toNat, .int .u8 d1.toNat, .int .u8 d2.toNat, .int .u8 d4.toNat, .int .u8 d5.toNat, .int .u8 d3.toNat] (by rw [QH.out]; rfl)
  have O3 := hid (And.intro hob hba)
  obtain ⟨f0, f1, f2, f3, f4, f5, f6, f7⟩ := conf_cells (B2.out.1.below hba hz)
  clear e0 e1 e2 e3 e4 e5 e6 e7 q0 q1 q2 q3 q4 q5 f0 f1 f2 f3 f4 hba hob
  have Z3 := hid (show w2.heap.size ≤ (w2.alloc (.cells #[.int .u8 d0.toNat, .int .u8 d1.toNat, .int .u8 d2.toNat, .int .u8 d4.toNat, .int .u8 d5.toNat, .int .u8 d3.toNat] 5)).heap.size from O3.out.2.size)
  generalize (w2.alloc (.cells #[.int .u8 d0.toNat, .int .u8 d1.toNat, .int .u8 d2.toNat, .int .u8 d4.toNat, .int .u8 d5.toNat, .int .u8 d3.toNat] 5)) = w3 at *
  have O3n := hid (show w3.ownsRow w2.heap.size 5 1 (.slice (some ⟨w2.heap.size, 0, none⟩) 6 6) 6 (ch.map byteV) by have h := O3.out.1; rw [HH.out.1] at h; exact h)
  have keep : ∀ W : World, Below w2.heap.size w3 W → W.cell? ⟨w.heap.size, 5, none⟩ = some (.int .i64 c5) ∧ W.cell? ⟨w.heap.size, 6, none⟩ = some (.int .i64 c6) ∧ W.cell? ⟨w.heap.size, 7, none⟩ = some (.int .i64 c7) := fun W hb => ⟨(hb.cell (p := ⟨w.heap.size, 5, none⟩) hz).trans f5, (hb.cell (p := ⟨w.heap.size, 6, none⟩) hz).trans f6, (hb.cell (p := ⟨w.heap.size, 7, none⟩) hz).trans f7⟩
  have KP := hid keep
  clear keep
  go_region_held3 (fun W => W.cell? ⟨w.heap.size, 5, none⟩ = some (.int .i64 c5) ∧ W.cell? ⟨w.heap.size, 6, none⟩ = some (.int .i64 c6) ∧ W.cell? ⟨w.heap.size, 7, none⟩ = some (.int .i64 c7))
    (first
      | exact E6.out
      | exact E5.out
      | exact E4.out
      | exact ⟨f5, f6, f7⟩)
    (first
      | (go_at_call 97
         have hN := O5.out.2.1
         refine (gput_n (.slice A5 14 k5) ((ch ++ quad c5) ++ quad c6) c7 w2.heap.size 14 18 _ rfl O5.out.2.2.2 (by first | exact O5.out.1 | exact O5.out.1.drew) (by exact O5.out.2.2.1) (Nat.lt_of_le_of_lt HL.out.1.2.2.2 (by decide)) (by decide)).mono ?_
         rintro e w6 ⟨A6, k6, rfl, hO, hb, hs, hl⟩
         have O6 := hid (And.intro hO (And.intro (hN.trans ⟨hb.os, hb.tape, hb.output, hb.size, hb.block⟩) (And.intro hs hl)))
         have E6 := hid (KP.out _ O6.out.2.1)
         clear hO hb hs hl hN)
      | (go_at_call 97
         have hN := O4.out.2.1
         refine (gput_n (.slice A4 10 k4) (ch ++ quad c5) c6 w2.heap.size 10 14 _ rfl O4.out.2.2.2 (by first | exact O4.out.1 | exact O4.out.1.drew) (by exact O4.out.2.2.1) (Nat.lt_of_le_of_lt HL.out.1.2.2.1 (by decide)) (by decide)).mono ?_
         rintro e w5 ⟨A5, k5, rfl, hO, hb, hs, hl⟩
         have O5 := hid (And.intro hO (And.intro (hN.trans ⟨hb.os, hb.tape, hb.output, hb.size, hb.block⟩) (And.intro hs hl)))
         have E5 := hid (KP.out _ O5.out.2.1)
         clear hO hb hs hl hN)
      | (go_at_call 97
         refine (gput_n (.slice (some ⟨w2.heap.size, 0, none⟩) 6 6) ch c5 w2.heap.size 6 10 w3.drew rfl HH.out.1 O3n.out.drew Z3.out (Nat.lt_of_le_of_lt HL.out.1.2.1 (by decide)) (by decide)).mono ?_
         rintro e w4 ⟨A4, k4, rfl, hO, hb, hs, hl⟩
         have hbw : Below w2.heap.size w3 w4 := ⟨hb.os, hb.tape, hb.output, hb.size, hb.block⟩
         have O4 := hid (And.intro hO (And.intro hbw (And.intro hs hl)))
         have E4 := hid (KP.out _ O4.out.2.1)
         clear hO hb hbw hs hl)
      | fail)
  all_goals
    have ho := O6.out.1
    rw [← QB.out] at ho
    have P6 := hid (show w6.ownsRow w2.heap.size 5 1 (.slice A6 18 k6) cb.length (cb.map byteV) by rw [HH.out.2.1]; exact ho)
    have hb6 : Below w.heap.size w w6 := B2.out.2.trans ((O3.out.2.trans O6.out.2.1).mono B2.out.2.size)
    have B6 := hid hb6
    have hsm := HH.out.2.2
    have hsz := O6.out.2.2.1
    clear ho hb6 f5 f6 f7
    go_wp2_with (at_builtin; refine wpList_append_form _ rfl (.tmp 43) (.tmp 44) _ rfl w2.heap.size 5 i0 (.int .u8 0) 1 1 Tryd.underlying23 IP.out.1 IP.out.2.1 IP.out.2.2.1 IP.out.2.2.2 rfl (by omega) (.slice A6 18 k6) cb.length (cb.map byteV) rfl (by first | exact P6.out | exact P6.out.drew) (.slice A bs.length c) bs.length (bs.map byteV) rfl (by first | exact (X.out.below B6.out).from_ | exact (X.out.below B6.out).drew.from_) (one_bytes bs) (.inl (by rcases P6.out.2 with ⟨h1, h2⟩ | ⟨g, cap, cur, h1, _⟩; (exfalso; rw [HH.out.2.1] at h2; omega); (rw [h1]; simp [Value.ownBlock]))) (by have := HH.out; have := HL.out; unfold maxLen; omega) (by have := HH.out; have := HL.out; omega) (by exact hsz) (cb.length + bs.length) ((cb ++ bs).map byteV) rfl (by simp) ?_; intro g7 cap7 w7 hown hgrow hat hlt7)
    have hb7 : Below w2.heap.size w6 w7 := (Below.refl _ w6).grown ⟨hgrow.os, hgrow.tape, hgrow.output, hgrow.size, hgrow.block⟩ hsz (fun k hk => (P6.out.lt k hk).1)
    refine (HS.out _ _ (Byt.of_own (bs := cb ++ bs) hown (by simp))).mono ?_
    rintro e w8 ⟨rfl, rfl⟩
    clear hown hgrow hat hlt7
    go_wp2_with fail
    go_ret2
    exact ⟨rfl, B6.out.trans (hb7.mono B2.out.2.size)⟩
/-! ### the document's -/
theorem number2 (v : Nat) (w : World) (_ : v ≤ 4294967295) : Calls Tryd.prog 75 #[.int .i64 v, .int .i64 2] w fun e w' => e = .returned (.slice (some ⟨w.heap.size, 0, none⟩) 2 2) ∧ w' = w.alloc (.cells #[.int .u8 (UInt8.ofNat (v / 256)).toNat, .int .u8 (UInt8.ofNat v).toNat] 5) := by
  have hmk : ∀ W : World, (Instr.makeSlice 23 (.int .i64 2) (.int .i64 2)).run Tryd.prog W = .ok (.slice (some ⟨W.heap.size, 0, none⟩) 2 2) (W.alloc (.cells #[.int .u8 0, .int .u8 0] 5)) := fun _ => by kernel_rfl
  have b0 : IntKind.u8.wrap ((v : Int)) = (((UInt8.ofNat v).toNat : Nat) : Int) := byte_self v
  have b1 : IntKind.u8.wrap ((v : Int) / 256) = (((UInt8.ofNat (v / 256)).toNat : Nat) : Int) := by rw [show ((v : Int) / 256) = ((v / 256 : Nat) : Int) by omega, wu8]; simp
  generalize UInt8.ofNat (v / 256) = c1 at *
  generalize UInt8.ofNat v = c0 at *
  go_enter Tryd.func75, Tryd.ntmps75
  go_wp2_with fail
  refine wp_loop_rounds 3 ?_
  rw [rounds_succ]
  go_wp2_with fail
  rw [rounds_succ]
  go_wp2_with fail
  rw [rounds_succ]
  go_wp2_with fail
  go_ret
  exact ⟨rfl, rfl⟩
theorem number2_any (v : Nat) (w : World) (hv : v < 4294967296) : Calls Tryd.prog 75 #[.int .i64 v, .int .i64 2] w fun e w' => e = .returned (.slice (some ⟨w.heap.size, 0, none⟩) 2 2) ∧ Blk w' w.heap.size 5 (([UInt8.ofNat (v / 256), UInt8.ofNat v] : List UInt8).map byteV).toArray ∧ Below w.heap.size w w' ∧ w'.heap.size = w.heap.size + 1 := by
  refine (number2 v w (by omega)).mono ?_
  rintro e w' ⟨rfl, rfl⟩
  exact ⟨rfl, Blk.new _ _ _, (Below.refl _ _).alloc (Nat.le_refl _) _, by simp⟩
set_option maxRecDepth 100000 in
set_option maxHeartbeats 4000000 in
theorem kconf_any (c0 c1 c2 c3 c4 c5 c6 c7 : Nat) (w : World) (hl : c3 ≤ 16320 ∧ c5 ≤ 16384 ∧ c6 ≤ 16384 ∧ c7 ≤ 16384) :
    Calls Tryd.prog 99 #[(⟨c0, c1, c2, c3, c4, c5, c6, c7⟩ : ConfS).val] w fun e w' => ∃ g k, e = .returned (.slice (some ⟨g, 0, none⟩) 18 k) ∧ w'.ownsRow w.heap.size 5 1 (.slice (some ⟨g, 0, none⟩) 18 k) 18 ((confBytes c0 c1 c2 c3 c4 c5 c6 c7).map byteV) ∧ Below w.heap.size w w' := by
  obtain ⟨i0, hi0, hz0, hz1, hz2⟩ := info_parts info_u8
  have IP := hid (And.intro hi0 (And.intro hz0 (And.intro hz1 hz2)))
  have HL := hid hl
  have B0 := hid (And.intro (Blk.new w 116 #[.int .i64 c0, .int .i64 c1, .int .i64 c2, .int .i64 c3, .int .i64 c4, .int .i64 c5, .int .i64 c6, .int .i64 c7]) ((Below.refl w.heap.size w).alloc (Nat.le_refl _) (.cells #[.int .i64 c0, .int .i64 c1, .int .i64 c2, .int .i64 c3, .int .i64 c4, .int .i64 c5, .int .i64 c6, .int .i64 c7] 116)))
  have SZ : (w.alloc (.cells #[.int .i64 c0, .int .i64 c1, .int .i64 c2, .int .i64 c3, .int .i64 c4, .int .i64 c5, .int .i64 c6, .int .i64 c7] 116)).heap.size = w.heap.size + 1 := by simp
  have hq0 := byte_self c0
  have hq1 := byte_self c1
  have hq2 := byte_self c2
  have hq4 := byte_self c4
  have CB := hid (show confBytes c0 c1 c2 c3 c4 c5 c6 c7 = ((([UInt8.ofNat c0, UInt8.ofNat c1, UInt8.ofNat c2, UInt8.ofNat c4] ++ [UInt8.ofNat (c3 / 256), UInt8.ofNat c3]) ++ quad c5) ++ quad c6) ++ quad c7 from rfl)
  generalize confBytes c0 c1 c2 c3 c4 c5 c6 c7 = cb at *
  generalize UInt8.ofNat c0 = d0 at *
  generalize UInt8.ofNat c1 = d1 at *
  generalize UInt8.ofNat c2 = d2 at *
  generalize UInt8.ofNat c4 = d4 at *
  obtain ⟨w2, hw2, ho2, hc2, hb2, hs2⟩ : ∃ w2, w2 = (w.alloc (.cells #[.int .i64 c0, .int .i64 c1, .int .i64 c2, .int .i64 c3, .int .i64 c4, .int .i64 c5, .int .i64 c6, .int .i64 c7] 116)).alloc (.cells #[.int .u8 d0.toNat, .int .u8 d1.toNat, .int .u8 d2.toNat, .int .u8 d4.toNat] 5) ∧ w2.ownsRow (w.heap.size + 1) 5 1 (.slice (some ⟨w.heap.size + 1, 0, none⟩) 4 4) 4 (([d0, d1, d2, d4] : List UInt8).map byteV) ∧ (w2.cell? ⟨w.heap.size, 3, none⟩ = some (.int .i64 c3) ∧ w2.cell? ⟨w.heap.size, 5, none⟩ = some (.int .i64 c5) ∧ w2.cell? ⟨w.heap.size, 6, none⟩ = some (.int .i64 c6) ∧ w2.cell? ⟨w.heap.size, 7, none⟩ = some (.int .i64 c7)) ∧ Below w.heap.size w w2 ∧ w.heap.size + 1 ≤ w2.heap.size := by
    have hb := (Below.refl (w.heap.size + 1) (w.alloc (.cells #[.int .i64 c0, .int .i64 c1, .int .i64 c2, .int .i64 c3, .int .i64 c4, .int .i64 c5, .int .i64 c6, .int .i64 c7] 116))).alloc (by omega) (.cells #[.int .u8 d0.toNat, .int .u8 d1.toNat, .int .u8 d2.toNat, .int .u8 d4.toNat] 5)
    have C0 := conf_cells (B0.out.1.below hb (by omega))
    have ho := own_lits (w.alloc (.cells #[.int .i64 c0, .int .i64 c1, .int .i64 c2, .int .i64 c3, .int .i64 c4, .int .i64 c5, .int .i64 c6, .int .i64 c7] 116)) (w.heap.size + 1) (by omega) [d0, d1, d2, d4] (by simp) 4 4 rfl rfl #[.int .u8 d0.toNat, .int .u8 d1.toNat, .int .u8 d2.toNat, .int .u8 d4.toNat] rfl
    rw [SZ] at ho
    exact ⟨_, rfl, ho, ⟨C0.2.2.2.1, C0.2.2.2.2.2.1, C0.2.2.2.2.2.2.1, C0.2.2.2.2.2.2.2⟩, B0.out.2.alloc (by omega) _, by simp⟩
  have hk : ∀ W : World, Below (w.heap.size + 1) w2 W → (W.cell? ⟨w.heap.size, 3, none⟩ = some (.int .i64 c3) ∧ W.cell? ⟨w.heap.size, 5, none⟩ = some (.int .i64 c5) ∧ W.cell? ⟨w.heap.size, 6, none⟩ = some (.int .i64 c6) ∧ W.cell? ⟨w.heap.size, 7, none⟩ = some (.int .i64 c7)) := fun W hb => ⟨(hb.cell (p := ⟨w.heap.size, 3, none⟩) (by simp)).trans hc2.1, (hb.cell (p := ⟨w.heap.size, 5, none⟩) (by simp)).trans hc2.2.1, (hb.cell (p := ⟨w.heap.size, 6, none⟩) (by simp)).trans hc2.2.2.1, (hb.cell (p := ⟨w.heap.size, 7, none⟩) (by simp)).trans hc2.2.2.2⟩
  have KP := hid hk
  have O2 := hid (And.intro ho2 (And.intro (Below.refl (w.heap.size + 1) w2) hs2))
  have H2 := hid (And.intro hw2 hb2)
  unfold ConfS.val
  dsimp only
  clear hi0 hz0 hz1 hz2 hl hk ho2 hc2 hs2 hw2 hb2 SZ B0
  go_enter Tryd.func99, Tryd.ntmps99
  go_wp2_with fail
  rw [← H2.out.1]
  have hws : w.heap.size + 1 ≤ w2.heap.size := O2.out.2.2
  refine (number2_any c3 _ (by have := HL.out; omega)).mono ?_
  rintro e wn0 ⟨rfl, hB, hb, _⟩
  have F0 := hid (And.intro (from_blk_u8 hB rfl) (And.intro (own_below O2.out.1 hb) (And.intro (O2.out.2.1.trans (hb.mono O2.out.2.2)) (Nat.le_trans O2.out.2.2 hb.size))))
  obtain ⟨e3, e5, e6, e7⟩ := KP.out _ F0.out.2.2.1
  have hsz := F0.out.2.2.2
  clear hB hb
  go_wp2_with (at_builtin; refine wpList_append_form _ rfl (.tmp 17) (.tmp 20) _ rfl (w.heap.size + 1) 5 i0 (.int .u8 0) 1 1 Tryd.underlying23 IP.out.1 IP.out.2.1 IP.out.2.2.1 IP.out.2.2.2 rfl (by omega) (.slice (some ⟨w.heap.size + 1, 0, none⟩) 4 4) 4 (([d0, d1, d2, d4] : List UInt8).map byteV) rfl (by exact F0.out.2.1) (.slice (some ⟨w2.heap.size, 0, none⟩) 2 2) 2 (([UInt8.ofNat (c3 / 256), UInt8.ofNat c3] : List UInt8).map byteV) rfl (by exact F0.out.1) (one_bytes _) (.inr (by omega)) (by unfold maxLen; omega) (by omega) (by exact hsz) 6 ((([d0, d1, d2, d4] : List UInt8) ++ ([UInt8.ofNat (c3 / 256), UInt8.ofNat c3] : List UInt8)).map byteV) rfl (by simp) ?_; intro g0 k0 wa0 hown hgrow hat hlt; have A0 := hid (And.intro hown (And.intro (F0.out.2.2.1.grown hgrow F0.out.2.2.2 (fun k hk => (F0.out.2.1.lt k hk).1)) (Nat.le_trans F0.out.2.2.2 hgrow.size))); clear hown hgrow hat hlt e3 e5 e6 e7; obtain ⟨e3, e5, e6, e7⟩ := KP.out _ A0.out.2.1)
  refine (number_any c5 _ (by have := HL.out; omega)).mono ?_
  rintro e wn1 ⟨rfl, hB, hb, _⟩
  have F1 := hid (And.intro (from_blk_u8 hB rfl) (And.intro (own_below A0.out.1 hb) (And.intro (A0.out.2.1.trans (hb.mono A0.out.2.2)) (Nat.le_trans A0.out.2.2 hb.size))))
  obtain ⟨e3, e5, e6, e7⟩ := KP.out _ F1.out.2.2.1
  have hsz := F1.out.2.2.2
  clear hB hb
  go_wp2_with (at_builtin; refine wpList_append_form _ rfl (.tmp 22) (.tmp 25) _ rfl (w.heap.size + 1) 5 i0 (.int .u8 0) 1 1 Tryd.underlying23 IP.out.1 IP.out.2.1 IP.out.2.2.1 IP.out.2.2.2 rfl (by omega) (.slice (some ⟨g0, 0, none⟩) 6 k0) 6 ((([d0, d1, d2, d4] : List UInt8) ++ ([UInt8.ofNat (c3 / 256), UInt8.ofNat c3] : List UInt8)).map byteV) rfl (by exact F1.out.2.1) (.slice (some ⟨wa0.heap.size, 0, none⟩) 4 4) 4 ((quad c5).map byteV) rfl (by exact F1.out.1) (one_bytes _) (.inr (by omega)) (by unfold maxLen; omega) (by omega) (by exact hsz) 10 (((([d0, d1, d2, d4] : List UInt8) ++ ([UInt8.ofNat (c3 / 256), UInt8.ofNat c3] : List UInt8)) ++ (quad c5)).map byteV) rfl (by simp) ?_; intro g1 k1 wa1 hown hgrow hat hlt; have A1 := hid (And.intro hown (And.intro (F1.out.2.2.1.grown hgrow F1.out.2.2.2 (fun k hk => (F1.out.2.1.lt k hk).1)) (Nat.le_trans F1.out.2.2.2 hgrow.size))); clear hown hgrow hat hlt e3 e5 e6 e7; obtain ⟨e3, e5, e6, e7⟩ := KP.out _ A1.out.2.1)
  refine (number_any c6 _ (by have := HL.out; omega)).mono ?_
  rintro e wn2 ⟨rfl, hB, hb, _⟩
  have F2 := hid (And.intro (from_blk_u8 hB rfl) (And.intro (own_below A1.out.1 hb) (And.intro (A1.out.2.1.trans (hb.mono A1.out.2.2)) (Nat.le_trans A1.out.2.2 hb.size))))
  obtain ⟨e3, e5, e6, e7⟩ := KP.out _ F2.out.2.2.1
  have hsz := F2.out.2.2.2
  clear hB hb
  go_wp2_with (at_builtin; refine wpList_append_form _ rfl (.tmp 27) (.tmp 30) _ rfl (w.heap.size + 1) 5 i0 (.int .u8 0) 1 1 Tryd.underlying23 IP.out.1 IP.out.2.1 IP.out.2.2.1 IP.out.2.2.2 rfl (by omega) (.slice (some ⟨g1, 0, none⟩) 10 k1) 10 (((([d0, d1, d2, d4] : List UInt8) ++ ([UInt8.ofNat (c3 / 256), UInt8.ofNat c3] : List UInt8)) ++ (quad c5)).map byteV) rfl (by exact F2.out.2.1) (.slice (some ⟨wa1.heap.size, 0, none⟩) 4 4) 4 ((quad c6).map byteV) rfl (by exact F2.out.1) (one_bytes _) (.inr (by omega)) (by unfold maxLen; omega) (by omega) (by exact hsz) 14 ((((([d0, d1, d2, d4] : List UInt8) ++ ([UInt8.ofNat (c3 / 256), UInt8.ofNat c3] : List UInt8)) ++ (quad c5)) ++ (quad c6)).map byteV) rfl (by simp) ?_; intro g2 k2 wa2 hown hgrow hat hlt; have A2 := hid (And.intro hown (And.intro (F2.out.2.2.1.grown hgrow F2.out.2.2.2 (fun k hk => (F2.out.2.1.lt k hk).1)) (Nat.le_trans F2.out.2.2.2 hgrow.size))); clear hown hgrow hat hlt e3 e5 e6 e7; obtain ⟨e3, e5, e6, e7⟩ := KP.out _ A2.out.2.1)
  refine (number_any c7 _ (by have := HL.out; omega)).mono ?_
  rintro e wn3 ⟨rfl, hB, hb, _⟩
  have F3 := hid (And.intro (from_blk_u8 hB rfl) (And.intro (own_below A2.out.1 hb) (And.intro (A2.out.2.1.trans (hb.mono A2.out.2.2)) (Nat.le_trans A2.out.2.2 hb.size))))
  obtain ⟨e3, e5, e6, e7⟩ := KP.out _ F3.out.2.2.1
  have hsz := F3.out.2.2.2
  clear hB hb
  go_wp2_with (at_builtin; refine wpList_append_form _ rfl (.tmp 32) (.tmp 35) _ rfl (w.heap.size + 1) 5 i0 (.int .u8 0) 1 1 Tryd.underlying23 IP.out.1 IP.out.2.1 IP.out.2.2.1 IP.out.2.2.2 rfl (by omega) (.slice (some ⟨g2, 0, none⟩) 14 k2) 14 ((((([d0, d1, d2, d4] : List UInt8) ++ ([UInt8.ofNat (c3 / 256), UInt8.ofNat c3] : List UInt8)) ++ (quad c5)) ++ (quad c6)).map byteV) rfl (by exact F3.out.2.1) (.slice (some ⟨wa2.heap.size, 0, none⟩) 4 4) 4 ((quad c7).map byteV) rfl (by exact F3.out.1) (one_bytes _) (.inr (by omega)) (by unfold maxLen; omega) (by omega) (by exact hsz) 18 (((((([d0, d1, d2, d4] : List UInt8) ++ ([UInt8.ofNat (c3 / 256), UInt8.ofNat c3] : List UInt8)) ++ (quad c5)) ++ (quad c6)) ++ (quad c7)).map byteV) rfl (by simp) ?_; intro g3 k3 wa3 hown hgrow hat hlt; have A3 := hid (And.intro hown (And.intro (F3.out.2.2.1.grown hgrow F3.out.2.2.2 (fun k hk => (F3.out.2.1.lt k hk).1)) (Nat.le_trans F3.out.2.2.2 hgrow.size))); clear hown hgrow hat hlt e3 e5 e6 e7; obtain ⟨e3, e5, e6, e7⟩ := KP.out _ A3.out.2.1)
  go_ret
  have ho := A3.out.1
  rw [← CB.out] at ho
  exact ⟨_, _, rfl, own_mono ho (by omega), H2.out.2.trans ⟨A3.out.2.1.os, A3.out.2.1.tape, A3.out.2.1.output, A3.out.2.1.size, fun k hk => A3.out.2.1.block k (by omega)⟩⟩
/-- A configuration's block, an error's block. -/
structure CE (w : World) (cs : Array Value) (W : World) : Prop where
  r : Blk W w.heap.size 116 cs
  e : Blk W (w.heap.size + 1) 32 #[.int .i64 0, .slice none 0 0]
  bel : Below w.heap.size w W
  size : w.heap.size + 2 ≤ W.heap.size
theorem CE.new (w : World) (cs : Array Value) : CE w cs ((w.alloc (.cells cs 116)).alloc (.cells #[.int .i64 0, .slice none 0 0] 32)) :=
  ⟨(Blk.new _ _ _).alloc _, blk_new_at (by simp) _ _, ((Below.refl _ _).alloc (Nat.le_refl _) _).alloc (by simp) _, by simp⟩
theorem CE.step {w W W' : World} {cs : Array Value} (h : CE w cs W) (hb : Below W.heap.size W W') : CE w cs W' :=
  ⟨h.r.below hb h.r.lt, h.e.below hb h.e.lt, h.bel.trans (hb.mono h.bel.size), Nat.le_trans h.size hb.size⟩
theorem CE.ecells {w W : World} {cs : Array Value} (h : CE w cs W) : W.cell? ⟨w.heap.size + 1, 0, none⟩ = some (.int .i64 0) ∧ W.cell? ⟨w.heap.size + 1, 1, none⟩ = some (.slice none 0 0) ∧ W.frozen? ⟨w.heap.size + 1, 0, none⟩ = false ∧ W.frozen? ⟨w.heap.size + 1, 1, none⟩ = false := by
  refine ⟨?_, ?_, h.e.frozen 0, h.e.frozen 1⟩ <;> (rw [h.e.cell]; rfl)
theorem CE.put {w W : World} {cs : Array Value} (h : CE w cs W) (z : Int) : Below w.heap.size w ((W.setCell ⟨w.heap.size + 1, 0, none⟩ (.int .i64 z)).setCell ⟨w.heap.size + 1, 1, none⟩ (.slice none 0 0)) ∧
    ((W.setCell ⟨w.heap.size + 1, 0, none⟩ (.int .i64 z)).setCell ⟨w.heap.size + 1, 1, none⟩ (.slice none 0 0)).cell? ⟨w.heap.size + 1, 0, none⟩ = some (.int .i64 z) ∧
    ((W.setCell ⟨w.heap.size + 1, 0, none⟩ (.int .i64 z)).setCell ⟨w.heap.size + 1, 1, none⟩ (.slice none 0 0)).cell? ⟨w.heap.size + 1, 1, none⟩ = some (.slice none 0 0) := by
  have hO : Only (fun k => k = w.heap.size + 1) W ((W.setCell ⟨w.heap.size + 1, 0, none⟩ (.int .i64 z)).setCell ⟨w.heap.size + 1, 1, none⟩ (.slice none 0 0)) := ((Only.refl (fun k => k = w.heap.size + 1) W).put (b := w.heap.size + 1) rfl 0 _).put (b := w.heap.size + 1) rfl 1 _
  have hk := (h.e.put 0 (.int .i64 z)).put 1 (.slice none 0 0)
  refine ⟨h.bel.trans ⟨hO.os, hO.tape, hO.output, hO.size, fun k hk => hO.block k (by have := h.bel.size; omega) (by omega)⟩, ?_, ?_⟩
  · rw [hk.cell]; rfl
  · rw [hk.cell]; rfl
set_option maxRecDepth 100000 in
set_option maxHeartbeats 2000000 in
theorem kkey_bad (c : ConfS) (x : Value) (w : World) (hm : mayC c = false) : Calls Tryd.prog 68 #[c.val, x] w fun e w' => e = .returned (.tuple #[.int .i64 0, .agg #[.int .i64 11, .slice none 0 0]]) ∧ Below w.heap.size w w' := by
  have HC := hid (fun W => kmay_any c W)
  rw [hm] at HC
  have R0 := hid (CE.new w #[.int .i64 c.qmin, .int .i64 c.qmax, .int .i64 c.reach, .int .i64 c.cut, .int .i64 c.gop, .int .i64 c.rate, .int .i64 c.room, .int .i64 c.fill])
  clear hm
  unfold ConfS.val at *
  go_enter Tryd.func68, Tryd.ntmps68
  go_wp2_with fail
  refine (HC.out _).mono ?_
  rintro e w2 ⟨rfl, h2⟩
  have R2 := hid (R0.out.step h2)
  clear h2
  go_wp2_with fail
  refine (fail_any 11 _).mono ?_
  rintro e w3 ⟨rfl, h3⟩
  have R3 := hid (R2.out.step h3)
  clear h3
  obtain ⟨e0, e1, f0, f1⟩ := R3.out.ecells
  go_wp2_with fail
  obtain ⟨h1, h2, h3⟩ := R3.out.put 11
  exact bodyPost_ret (v := .tuple #[.int .i64 0, .agg #[.int .i64 11, .slice none 0 0]]) (by simp [results, Tryd.results68, go_sem, h2, h3]) rfl ⟨rfl, h1⟩
set_option maxRecDepth 100000 in
set_option maxHeartbeats 4000000 in
theorem kkey_ok (c0 c1 c2 c3 c4 c5 c6 c7 : Nat) (x : Value) (bs : List UInt8) (w : World) (hm : mayC ⟨c0, c1, c2, c3, c4, c5, c6, c7⟩ = true) (hl : c3 ≤ 16320 ∧ c5 ≤ 16384 ∧ c6 ≤ 16384 ∧ c7 ≤ 16384) (hx : Byt w x bs) (hbl : bs.length ≤ 1000000) :
    Calls Tryd.prog 68 #[(⟨c0, c1, c2, c3, c4, c5, c6, c7⟩ : ConfS).val, x] w fun e w' => e = .returned (.tuple #[.int .i64 ((sumOf (confBytes c0 c1 c2 c3 c4 c5 c6 c7 ++ bs) : Nat) : Int), .agg #[.int .i64 0, .slice none 0 0]]) ∧ Below w.heap.size w w' := by
  obtain ⟨i0, hi0, hz0, hz1, hz2⟩ := info_parts info_u8
  have IP := hid (And.intro hi0 (And.intro hz0 (And.intro hz1 hz2)))
  obtain ⟨A, c, rfl, hc⟩ := hx.form
  have HC := hid (fun W => kmay_any ⟨c0, c1, c2, c3, c4, c5, c6, c7⟩ W)
  rw [hm] at HC
  have HF := hid (fun W => kconf_any c0 c1 c2 c3 c4 c5 c6 c7 W hl)
  have hSL := sumOf_lt (confBytes c0 c1 c2 c3 c4 c5 c6 c7 ++ bs)
  have HS := hid (fun W y (hy : Byt W y (confBytes c0 c1 c2 c3 c4 c5 c6 c7 ++ bs)) => rsum_any y _ W hy (by rw [List.length_append, confBytes_len]; omega))
  have hcl := confBytes_len c0 c1 c2 c3 c4 c5 c6 c7
  generalize sumOf (confBytes c0 c1 c2 c3 c4 c5 c6 c7 ++ bs) = sm at *
  generalize confBytes c0 c1 c2 c3 c4 c5 c6 c7 = cb at *
  have R0 := hid (CE.new w #[.int .i64 c0, .int .i64 c1, .int .i64 c2, .int .i64 c3, .int .i64 c4, .int .i64 c5, .int .i64 c6, .int .i64 c7])
  have X := hid hx
  have HL := hid (And.intro hbl (And.intro hcl hSL))
  unfold ConfS.val at *
  dsimp only at *
  clear hi0 hz0 hz1 hz2 hx hc hl hbl hm hcl hSL
  go_enter Tryd.func68, Tryd.ntmps68
  go_wp2_with fail
  refine (HC.out _).mono ?_
  rintro e w2 ⟨rfl, h2⟩
  have R2 := hid (R0.out.step h2)
  clear h2
  obtain ⟨e0, e1, e2, e3, e4, e5, e6, e7⟩ := conf_cells R2.out.r
  go_wp2_with fail
  refine (HF.out _).mono ?_
  rintro e w3 ⟨g, k, rfl, ho, h3⟩
  have R3 := hid (R2.out.step h3)
  have O3 := hid (And.intro ho h3)
  have hsz := O3.out.2.size
  clear ho h3 e0 e1 e2 e3 e4 e5 e6 e7
  go_wp2_with (at_builtin; refine wpList_append_form _ rfl (.tmp 11) (.tmp 12) _ rfl w2.heap.size 5 i0 (.int .u8 0) 1 1 Tryd.underlying23 IP.out.1 IP.out.2.1 IP.out.2.2.1 IP.out.2.2.2 rfl (by omega) (.slice (some ⟨g, 0, none⟩) 18 k) 18 (cb.map byteV) rfl (by exact O3.out.1) (.slice A bs.length c) bs.length (bs.map byteV) rfl (by exact (X.out.below R3.out.bel).from_) (one_bytes bs) (.inl (by simp [Value.ownBlock])) (by have := HL.out; unfold maxLen; omega) (by have := HL.out; omega) (by exact hsz) (18 + bs.length) ((cb ++ bs).map byteV) rfl (by simp) ?_; intro g7 cap7 w7 hown hgrow hat hlt7)
  have hb7 : Below w2.heap.size w2 w7 := O3.out.2.grown hgrow hsz (fun k hk => (O3.out.1.lt k hk).1)
  refine (HS.out _ _ (Byt.of_own (bs := cb ++ bs) hown (by rw [List.length_append, HL.out.2.1]))).mono ?_
  rintro e w8 ⟨rfl, rfl⟩
  have R8 := hid (R2.out.step hb7)
  have hsm := HL.out.2.2
  obtain ⟨e0, e1, f0, f1⟩ := R8.out.ecells
  clear hown hgrow hat hlt7 hb7
  go_wp2_with fail
  obtain ⟨h1, h2, h3⟩ := R8.out.put 0
  exact bodyPost_ret (v := .tuple #[.int .i64 sm, .agg #[.int .i64 0, .slice none 0 0]]) (by simp [results, Tryd.results68, go_sem, h2, h3]) rfl ⟨rfl, h1⟩
/-! ### both -/
theorem gkey_any (c : ConfS) (x : Value) (bs : List UInt8) (w : World) (hx : Byt w x bs) (hbl : bs.length ≤ 1000000) : Calls Tryd.prog 67 #[c.val, x] w fun e w' => e = .returned (.tuple #[.int .i64 (keyOf c bs), codeV (keyNo c)]) ∧ Below w.heap.size w w' := by
  unfold keyOf keyNo
  cases hm : mayC c
  · exact gkey_bad c x w hm
  · obtain ⟨c0, c1, c2, c3, c4, c5, c6, c7, rfl, _, _, _, h3, _, h5, h6, h7⟩ := conf_nat hm
    exact gkey_ok c0 c1 c2 c3 c4 c5 c6 c7 x bs w hm ⟨h3, h5, h6, h7⟩ hx hbl
theorem kkey_any (c : ConfS) (x : Value) (bs : List UInt8) (w : World) (hx : Byt w x bs) (hbl : bs.length ≤ 1000000) : Calls Tryd.prog 68 #[c.val, x] w fun e w' => e = .returned (.tuple #[.int .i64 (keyOf c bs), .agg #[.int .i64 (keyNo c), .slice none 0 0]]) ∧ Below w.heap.size w w' := by
  unfold keyOf keyNo
  cases hm : mayC c
  · exact kkey_bad c x w hm
  · obtain ⟨c0, c1, c2, c3, c4, c5, c6, c7, rfl, _, _, _, h3, _, h5, h6, h7⟩ := conf_nat hm
    exact kkey_ok c0 c1 c2 c3 c4 c5 c6 c7 x bs w hm ⟨h3, h5, h6, h7⟩ hx hbl
/-! ### LogKeys -/
theorem gkeys_big (c : ConfS) (A : Option Addr) (n cc : Nat) (w : World) (hg : ErrT w) (hs : 20000 < n) :
    Calls Tryd.prog 20 #[c.val, .slice A n cc] w fun e w' => e = .returned (.bool true) ∧ Below w.heap.size w w' := by
  have hb0 : Below w.heap.size w (w.alloc (.cells #[.int .i64 c.qmin, .int .i64 c.qmax, .int .i64 c.reach, .int .i64 c.cut, .int .i64 c.gop, .int .i64 c.rate, .int .i64 c.room, .int .i64 c.fill] 116)) := (Below.refl _ _).alloc (Nat.le_refl _) _
  have HG := hid (And.intro (hg.below hb0 hg.lt) hb0)
  have hb' : decide ((20000 : Int) < (n : Int)) = true := by simp; omega
  unfold ConfS.val
  clear hg hs hb0
  go_enter Tryd.func20, Tryd.ntmps20
  go_wp2_with fail
  refine (gfirst_any _ HG.out.1).mono ?_
  rintro e w1 ⟨rfl, h1⟩
  have B1 := hid h1
  clear h1
  go_wp2_with fail
  refine (gfirst_any _ (HG.out.1.below B1.out HG.out.1.lt)).mono ?_
  rintro e w2 ⟨rfl, h1⟩
  have B2 := hid h1
  clear h1
  go_wp2_with fail
  go_ret
  exact ⟨rfl, HG.out.2.trans ((B1.out.trans (B2.out.mono B1.out.size)).mono HG.out.2.size)⟩
/-- What LogKeys holds. -/
structure LK (w : World) (cs : Array Value) (x : Value) (bs : List UInt8) (W : World) : Prop where
  et : ErrT W
  r : Blk W w.heap.size 116 cs
  bel : Below w.heap.size w W
  x : Byt W x bs
theorem LK.step {w W W' : World} {cs : Array Value} {x : Value} {bs : List UInt8} (h : LK w cs x bs W) (hb : Below W.heap.size W W') : LK w cs x bs W' :=
  ⟨h.et.below hb h.et.lt, h.r.below hb h.r.lt, h.bel.trans (hb.mono h.bel.size), h.x.below hb⟩
theorem conf_cellsI {W : World} {b : Nat} {c0 c1 c2 c3 c4 c5 c6 c7 : Int} (h : Blk W b 116 #[.int .i64 c0, .int .i64 c1, .int .i64 c2, .int .i64 c3, .int .i64 c4, .int .i64 c5, .int .i64 c6, .int .i64 c7]) :
    W.cell? ⟨b, 0, none⟩ = some (.int .i64 c0) ∧ W.cell? ⟨b, 1, none⟩ = some (.int .i64 c1) ∧ W.cell? ⟨b, 2, none⟩ = some (.int .i64 c2) ∧ W.cell? ⟨b, 3, none⟩ = some (.int .i64 c3) ∧ W.cell? ⟨b, 4, none⟩ = some (.int .i64 c4) ∧ W.cell? ⟨b, 5, none⟩ = some (.int .i64 c5) ∧ W.cell? ⟨b, 6, none⟩ = some (.int .i64 c6) ∧ W.cell? ⟨b, 7, none⟩ = some (.int .i64 c7) := by
  refine ⟨?_, ?_, ?_, ?_, ?_, ?_, ?_, ?_⟩ <;> (rw [h.cell]; rfl)
set_option maxRecDepth 100000 in
set_option maxHeartbeats 4000000 in
theorem gkeys_walk (x : Value) (c : ConfS) (bs : List UInt8) (w : World) (hx : Byt w x bs) (_ : bs.length ≤ maxLen) (hg : ErrT w) :
    Calls Tryd.prog 20 #[c.val, x] w fun e w' => e = .returned (.bool true) ∧ Below w.heap.size w w' := by
  obtain ⟨A, cc, rfl, hc⟩ := hx.form
  by_cases hbig : 20000 < bs.length
  · exact gkeys_big c A bs.length cc w hg hbig
  · have hb' : decide ((20000 : Int) < (bs.length : Int)) = false := by simp; omega
    have HL := hid (show bs.length ≤ 20000 by omega)
    obtain ⟨c0, c1, c2, c3, c4, c5, c6, c7⟩ := c
    have hb0 : Below w.heap.size w (w.alloc (.cells #[.int .i64 c0, .int .i64 c1, .int .i64 c2, .int .i64 c3, .int .i64 c4, .int .i64 c5, .int .i64 c6, .int .i64 c7] 116)) := (Below.refl _ _).alloc (Nat.le_refl _) _
    have R0 := hid (show LK w #[.int .i64 c0, .int .i64 c1, .int .i64 c2, .int .i64 c3, .int .i64 c4, .int .i64 c5, .int .i64 c6, .int .i64 c7] (.slice A bs.length cc) bs _ from ⟨hg.below hb0 hg.lt, Blk.new _ _ _, hb0, hx.below hb0⟩)
    have HK := hid (fun W y (hy : Byt W y bs) => gkey_any ⟨c0, c1, c2, c3, c4, c5, c6, c7⟩ y bs W hy (by omega))
    have HR := hid (fun W y (hy : Byt W y bs) => kkey_any ⟨c0, c1, c2, c3, c4, c5, c6, c7⟩ y bs W hy (by omega))
    generalize keyOf ⟨c0, c1, c2, c3, c4, c5, c6, c7⟩ bs = ko at *
    generalize keyNo ⟨c0, c1, c2, c3, c4, c5, c6, c7⟩ = kn at *
    unfold ConfS.val at *
    dsimp only at *
    clear hbig hg hx hc hb0
    go_enter Tryd.func20, Tryd.ntmps20
    go_wp2_with fail
    refine (gfirst_any _ R0.out.et).mono ?_
    rintro e w1 ⟨rfl, h1⟩
    have R1 := hid (R0.out.step h1)
    clear h1
    go_wp2_with fail
    refine (copy_bytes _ bs _ R1.out.x.from_ (by have := HL.out; omega)).mono ?_
    rintro e w2 ⟨g, k, rfl, ho, h2⟩
    have R2 := hid (R1.out.step h2)
    have I2 := hid (Byt.of_own ho rfl)
    clear ho h2
    obtain ⟨e0, e1, e2, e3, e4, e5, e6, e7⟩ := conf_cellsI R2.out.r
    go_wp2_with fail
    refine (HK.out _ _ (by exact I2.out)).mono ?_
    rintro e w3 ⟨rfl, h3⟩
    have R3 := hid (R2.out.step h3)
    have I3 := hid (I2.out.below h3)
    clear h3 e0 e1 e2 e3 e4 e5 e6 e7
    obtain ⟨e0, e1, e2, e3, e4, e5, e6, e7⟩ := conf_cellsI R3.out.r
    go_wp2_with fail
    refine (HR.out _ _ (by exact R3.out.x)).mono ?_
    rintro e w4 ⟨rfl, h4⟩
    have hba : Below w4.heap.size w4 (w4.alloc (.cells #[.int .i64 kn, .slice none 0 0] 32)) := (Below.refl _ _).alloc (Nat.le_refl _) _
    have R4 := hid ((R3.out.step h4).step hba)
    have I4 := hid (And.intro ((I3.out.below h4).below hba) (Blk.new w4 32 #[.int .i64 kn, .slice none 0 0]))
    clear h4 e0 e1 e2 e3 e4 e5 e6 e7 hba
    go_wp2_with fail
    refine (gfirst_any _ R4.out.et).mono ?_
    rintro e w5 ⟨rfl, h5⟩
    have R5 := hid (R4.out.step h5)
    have I5 := hid (And.intro (I4.out.1.below h5) (I4.out.2.below h5 I4.out.2.lt))
    clear h5
    have n0 : w5.cell? ⟨w4.heap.size, 0, none⟩ = some (.int .i64 kn) := by rw [I5.out.2.cell]; rfl
    have n1 : w5.cell? ⟨w4.heap.size, 1, none⟩ = some (.slice none 0 0) := by rw [I5.out.2.cell]; rfl
    go_wp2_with fail
    refine (err_same kn _ (by exact R5.out.et)).mono ?_
    rintro e w6 ⟨rfl, h6⟩
    have R6 := hid (R5.out.step h6)
    have I6 := hid (I5.out.1.below h6)
    clear h6 n0 n1
    go_wp2_with fail
    refine (bytes_same (by exact I6.out.from_) (by exact R6.out.x.from_)).mono ?_
    rintro e w7 ⟨rfl, rfl⟩
    go_wp2_with fail
    go_ret
    exact ⟨rfl, R6.out.bel⟩
end Go.Proofs.YtabklmkdneoaaaaDoor
