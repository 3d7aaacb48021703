/- Chapter 26: may it be a record; its data; Pack. -/
import Derived.Test.YtabklmkdneoaaaaDoorUMem
import Derived.Test.YtabklmkdneoaaaaDoorUNext3
import Derived.Deep.Light
import Derived.Deep.RegionHeld3
import Derived.Deep.QuietTactic
import Derived.BigQuiet
import Derived.Outline
import Derived.Test.YtabklmkdneoaaaaDoorUMakeAny
import Derived.Test.YtabklmkdneoaaaaDoorULawSplits
/- Chapter 26, plain: a record; may it be one; its bytes; what is parsed. -/
namespace Go.Proofs.YtabklmkdneoaaaaDoor

structure RecS where
  kind : Int
  sum : Int
  num : Int
  len : Int
  code : Int
deriving DecidableEq
def RecS.cells (r : RecS) : List Value := [.int .i64 r.kind, .int .i64 r.sum, .int .i64 r.num, .int .i64 r.len, .int .i64 r.code]
def RecS.val (r : RecS) : Value := .agg #[.int .i64 r.kind, .int .i64 r.sum, .int .i64 r.num, .int .i64 r.len, .int .i64 r.code]
def recZ : RecS := ⟨0, 0, 0, 0, 0⟩
def kindB (k : Int) : Bool := decide (48 ≤ k) && decide (k ≤ 51)
def sumB (n : Int) : Bool := decide (0 ≤ n) && decide (n ≤ 4294967295)
def lenB (n : Int) : Bool := decide (0 ≤ n) && decide (n ≤ 16777216)
def boundsB (r : RecS) : Bool :=
  if r.kind = 48 then sumB r.sum && decide (0 ≤ r.num) && decide (r.num ≤ 16)
  else if r.kind = 49 then sumB r.sum && lenB r.len && decide (0 ≤ r.num) && decide (r.num < 16)
  else if r.kind = 50 then decide (1 ≤ r.code) && decide (r.code ≤ 15)
  else sumB r.sum && lenB r.len
def onlyR (r : RecS) : RecS :=
  if r.kind = 50 then ⟨r.kind, 0, 0, 0, r.code⟩
  else if r.kind = 48 then ⟨r.kind, r.sum, r.num, 0, 0⟩
  else if r.kind = 51 then ⟨r.kind, r.sum, 0, r.len, 0⟩
  else ⟨r.kind, r.sum, r.num, r.len, 0⟩
/-- May it be a record? -/
def mayR (r : RecS) : Bool :=
  if r.kind = 48 then sumB r.sum && decide (0 ≤ r.num) && decide (r.num ≤ 16) && decide (r.len = 0) && decide (r.code = 0)
  else if r.kind = 49 then sumB r.sum && decide (0 ≤ r.num) && decide (r.num ≤ 15) && lenB r.len && decide (r.code = 0)
  else if r.kind = 50 then decide (r.sum = 0) && decide (r.num = 0) && decide (r.len = 0) && decide (1 ≤ r.code) && decide (r.code ≤ 15)
  else if r.kind = 51 then sumB r.sum && decide (r.num = 0) && lenB r.len && decide (r.code = 0)
  else false
theorem mayR_eq (r : RecS) : mayR r = (kindB r.kind && boundsB r && decide (onlyR r = r)) := by
  obtain ⟨k, s, n, l, c⟩ := r
  rw [Bool.eq_iff_iff]
  unfold mayR kindB boundsB onlyR sumB lenB
  dsimp only
  by_cases h48 : k = 48
  · subst h48
    simp
    omega
  by_cases h49 : k = 49
  · subst h49
    simp
    omega
  by_cases h50 : k = 50
  · subst h50
    simp
    omega
  by_cases h51 : k = 51
  · subst h51
    simp
    omega
  simp [h48, h49, h50, h51]
  omega
end Go.Proofs.YtabklmkdneoaaaaDoor
/- log.May, kinref26.May: the walks. -/
namespace Go.Proofs.YtabklmkdneoaaaaDoor
open Go.RowKit

theorem ret_bool {b c : Bool} (h : b = c) : Ending.returned (.bool b) = Ending.returned (.bool c) := by rw [h]
theorem gkind_any (k : Int) (w : World) : Calls Tryd.prog 85 #[.int .i64 k] w fun e w' => e = .returned (.bool (kindB k)) ∧ w = w' := by
  go_enter Tryd.func85, Tryd.ntmps85
  go_wp2_with fail
  all_goals
    go_ret
    refine ⟨ret_bool ?_, rfl⟩
    unfold kindB
    rw [Bool.eq_iff_iff]
    simp [*]
    try omega
theorem rkind_any (k : Int) (w : World) : Calls Tryd.prog 91 #[.int .i64 k] w fun e w' => e = .returned (.bool (kindB k)) ∧ w = w' := by
  go_enter Tryd.func91, Tryd.ntmps91
  go_wp2_with fail
  all_goals
    go_ret
    refine ⟨ret_bool ?_, rfl⟩
    unfold kindB
    rw [Bool.eq_iff_iff]
    simp [*]
    try omega
theorem rgsum_any (k : Int) (w : World) : Calls Tryd.prog 94 #[.int .i64 k] w fun e w' => e = .returned (.bool (sumB k)) ∧ w = w' := by
  go_enter Tryd.func94, Tryd.ntmps94
  go_wp2_with fail
  all_goals
    go_ret
    refine ⟨ret_bool ?_, rfl⟩
    unfold sumB
    rw [Bool.eq_iff_iff]
    simp [*]
    try omega
theorem rlength_any (k : Int) (w : World) : Calls Tryd.prog 95 #[.int .i64 k] w fun e w' => e = .returned (.bool (lenB k)) ∧ w = w' := by
  go_enter Tryd.func95, Tryd.ntmps95
  go_wp2_with fail
  all_goals
    go_ret
    refine ⟨ret_bool ?_, rfl⟩
    unfold lenB
    rw [Bool.eq_iff_iff]
    simp [*]
    try omega
set_option maxRecDepth 100000 in
set_option maxHeartbeats 1000000 in
theorem gbounds_any (r : RecS) (w : World) : Calls Tryd.prog 86 #[r.val] w fun e w' => e = .returned (.bool (boundsB r)) ∧ Below w.heap.size w w' := by
  obtain ⟨k, s, n, l, c⟩ := r
  unfold RecS.val
  dsimp only
  go_enter Tryd.func86, Tryd.ntmps86
  go_wp2_with fail
  all_goals
    go_ret
    refine ⟨ret_bool ?_, (Below.refl _ _).alloc (Nat.le_refl _) _⟩
    go_light
    simp only [beq_iff_eq, beq_eq_false_iff_ne, ne_eq] at *
    unfold boundsB sumB lenB
    rw [Bool.eq_iff_iff]
    dsimp only
    first
      | (simp [*]; done)
      | (simp [*]; omega)
      | (simp [*]; (repeat' split) <;> omega)
set_option maxRecDepth 100000 in
set_option maxHeartbeats 1000000 in
theorem gonly_any (r : RecS) (w : World) : Calls Tryd.prog 87 #[r.val] w fun e w' => e = .returned (onlyR r).val ∧ Below w.heap.size w w' := by
  obtain ⟨k, s, n, l, c⟩ := r
  unfold RecS.val
  dsimp only
  go_enter Tryd.func87, Tryd.ntmps87
  go_wp2_with fail
  all_goals
    go_light
    simp only [beq_iff_eq, beq_eq_false_iff_ne, ne_eq] at *
    have e : (onlyR ⟨k, s, n, l, c⟩).val = .agg #[.int .i64 (onlyR ⟨k, s, n, l, c⟩).kind, .int .i64 (onlyR ⟨k, s, n, l, c⟩).sum, .int .i64 (onlyR ⟨k, s, n, l, c⟩).num, .int .i64 (onlyR ⟨k, s, n, l, c⟩).len, .int .i64 (onlyR ⟨k, s, n, l, c⟩).code] := rfl
    refine bodyPost_ret (v := (onlyR ⟨k, s, n, l, c⟩).val) ?_ rfl ⟨rfl, ((Below.refl _ _).alloc (Nat.le_refl _) _).alloc (by simp) _⟩
    rw [e]
    unfold onlyR
    simp [results, Tryd.results87, go_sem, *]
set_option maxRecDepth 100000 in
set_option maxHeartbeats 1000000 in
theorem rmay_any (r : RecS) (w : World) : Calls Tryd.prog 63 #[r.val] w fun e w' => e = .returned (.bool (mayR r)) ∧ Below w.heap.size w w' := by
  obtain ⟨k, s, n, l, c⟩ := r
  unfold RecS.val
  dsimp only
  go_enter Tryd.func63, Tryd.ntmps63
  go_wp2_with (first
    | (go_at_call 94
       refine (rgsum_any _ _).mono ?_
       rintro e w2 ⟨rfl, rfl⟩)
    | (go_at_call 95
       refine (rlength_any _ _).mono ?_
       rintro e w2 ⟨rfl, rfl⟩))
  all_goals
    go_ret
    refine ⟨ret_bool ?_, (Below.refl _ _).alloc (Nat.le_refl _) _⟩
    go_light
    simp only [beq_iff_eq, beq_eq_false_iff_ne, ne_eq] at *
    unfold mayR
    rw [Bool.eq_iff_iff]
    dsimp only
    first
      | (simp [*]; done)
      | (simp [*]; omega)
      | (simp [*]; (repeat' split) <;> omega)
theorem five_eq (a0 a1 a2 a3 a4 b0 b1 b2 b3 b4 : Int) : decide ((⟨a0, a1, a2, a3, a4⟩ : RecS) = ⟨b0, b1, b2, b3, b4⟩) = (a0 == b0 && a1 == b1 && a2 == b2 && a3 == b3 && a4 == b4) := by
  rw [Bool.eq_iff_iff]
  simp [and_assoc]
theorem recs_eql (a0 a1 a2 a3 a4 b0 b1 b2 b3 b4 : Int) (W : World) : (binOp .eql 73 (.agg #[.int .i64 a0, .int .i64 a1, .int .i64 a2, .int .i64 a3, .int .i64 a4]) (.agg #[.int .i64 b0, .int .i64 b1, .int .i64 b2, .int .i64 b3, .int .i64 b4])).run Tryd.prog W
    = .ok (.bool (decide ((⟨a0, a1, a2, a3, a4⟩ : RecS) = ⟨b0, b1, b2, b3, b4⟩))) W := by
  rw [five_eq]
  cases h0 : (a0 == b0) <;> cases h1 : (a1 == b1) <;> cases h2 : (a2 == b2) <;> cases h3 : (a3 == b3) <;> cases h4 : (a4 == b4) <;> go_simp
set_option maxRecDepth 100000 in
set_option maxHeartbeats 1000000 in
theorem gmay_any (r : RecS) (w : World) : Calls Tryd.prog 49 #[r.val] w fun e w' => e = .returned (.bool (mayR r)) ∧ Below w.heap.size w w' := by
  rw [mayR_eq]
  obtain ⟨k, s, n, l, c⟩ := r
  have hb0 : Below w.heap.size w (w.alloc (.cells #[.int .i64 k, .int .i64 s, .int .i64 n, .int .i64 l, .int .i64 c] 73)) := (Below.refl _ _).alloc (Nat.le_refl _) _
  have B0 := hid (And.intro (Blk.new w 73 #[.int .i64 k, .int .i64 s, .int .i64 n, .int .i64 l, .int .i64 c]) hb0)
  have hC : ∀ W, Blk W w.heap.size 73 #[.int .i64 k, .int .i64 s, .int .i64 n, .int .i64 l, .int .i64 c] → (W.cell? ⟨w.heap.size, 0, none⟩ = some (.int .i64 k) ∧ W.cell? ⟨w.heap.size, 1, none⟩ = some (.int .i64 s) ∧ W.cell? ⟨w.heap.size, 2, none⟩ = some (.int .i64 n) ∧ W.cell? ⟨w.heap.size, 3, none⟩ = some (.int .i64 l) ∧ W.cell? ⟨w.heap.size, 4, none⟩ = some (.int .i64 c)) := by
    intro W h
    refine ⟨?_, ?_, ?_, ?_, ?_⟩ <;> (rw [h.cell]; rfl)
  have HC := hid hC
  have D0 := hid (hC _ B0.out.1)
  clear hC hb0
  cases hk : kindB k
  · have HK : Hid (∀ W, Calls Tryd.prog 85 #[.int .i64 k] W fun e w' => e = .returned (.bool false) ∧ w' = W) := fun W => (gkind_any k W).mono fun _ _ h => ⟨by rw [h.1, hk], h.2.symm⟩
    unfold RecS.val
    dsimp only
    go_enter Tryd.func49, Tryd.ntmps49
    go_wp2_with fail
    obtain ⟨d0, d1, d2, d3, d4⟩ := D0.out
    generalize w.alloc (.cells #[.int .i64 k, .int .i64 s, .int .i64 n, .int .i64 l, .int .i64 c] 73) = wq at *
    go_quiet ((go_at_call 85; exact Calls.quiet_of_same (HK.out _)))
    go_wp2_with fail
    go_ret
    exact ⟨rfl, B0.out.2.os, B0.out.2.tape, B0.out.2.output, B0.out.2.size, B0.out.2.block⟩
  · have HK : Hid (∀ W, Calls Tryd.prog 85 #[.int .i64 k] W fun e w' => e = .returned (.bool true) ∧ w' = W) := fun W => (gkind_any k W).mono fun _ _ h => ⟨by rw [h.1, hk], h.2.symm⟩
    cases hb : boundsB ⟨k, s, n, l, c⟩
    · have HB : Hid (∀ W, Calls Tryd.prog 86 #[.agg #[.int .i64 k, .int .i64 s, .int .i64 n, .int .i64 l, .int .i64 c]] W fun e w' => e = .returned (.bool false) ∧ Below W.heap.size W w') := fun W => (gbounds_any ⟨k, s, n, l, c⟩ W).mono fun _ _ h => ⟨by rw [h.1, hb], h.2⟩
      unfold RecS.val
      dsimp only
      go_enter Tryd.func49, Tryd.ntmps49
      go_wp2_with fail
      obtain ⟨d0, d1, d2, d3, d4⟩ := D0.out
      generalize w.alloc (.cells #[.int .i64 k, .int .i64 s, .int .i64 n, .int .i64 l, .int .i64 c] 73) = wq at *
      go_region_with (first
        | (go_at_call 85
           refine (HK.out _).mono ?_
           rintro e w2 ⟨rfl, rfl⟩)
        | (go_at_call 86
           refine (HB.out _).mono ?_
           rintro e w2 ⟨rfl, hb2⟩
           have B2 := hid (B0.out.2.drew.trans (hb2.mono B0.out.2.size))
           clear hb2))
      all_goals
        go_wp2_with fail
        go_ret
        exact ⟨rfl, B2.out⟩
    · have HB : Hid (∀ W, Calls Tryd.prog 86 #[.agg #[.int .i64 k, .int .i64 s, .int .i64 n, .int .i64 l, .int .i64 c]] W fun e w' => e = .returned (.bool true) ∧ Below W.heap.size W w') := fun W => (gbounds_any ⟨k, s, n, l, c⟩ W).mono fun _ _ h => ⟨by rw [h.1, hb], h.2⟩
      obtain ⟨o, ho⟩ : ∃ o, o = onlyR ⟨k, s, n, l, c⟩ := ⟨_, rfl⟩
      rw [← ho]
      obtain ⟨k2, s2, n2, l2, c2⟩ := o
      have HO : Hid (∀ W, Calls Tryd.prog 87 #[.agg #[.int .i64 k, .int .i64 s, .int .i64 n, .int .i64 l, .int .i64 c]] W fun e w' => e = .returned (.agg #[.int .i64 k2, .int .i64 s2, .int .i64 n2, .int .i64 l2, .int .i64 c2]) ∧ Below W.heap.size W w') := fun W => (gonly_any ⟨k, s, n, l, c⟩ W).mono fun _ _ h => ⟨by rw [h.1, ← ho]; rfl, h.2⟩
      have hq := fun W => recs_eql k2 s2 n2 l2 c2 k s n l c W
      generalize decide ((⟨k2, s2, n2, l2, c2⟩ : RecS) = ⟨k, s, n, l, c⟩) = bb at *
      clear ho hk hb
      unfold RecS.val
      dsimp only
      go_enter Tryd.func49, Tryd.ntmps49
      go_wp2_with fail
      have d0 := D0.out
      generalize w.alloc (.cells #[.int .i64 k, .int .i64 s, .int .i64 n, .int .i64 l, .int .i64 c] 73) = wq at *
      go_region_held3 (fun W => W.cell? ⟨w.heap.size, 0, none⟩ = some (.int .i64 k) ∧ W.cell? ⟨w.heap.size, 1, none⟩ = some (.int .i64 s) ∧ W.cell? ⟨w.heap.size, 2, none⟩ = some (.int .i64 n) ∧ W.cell? ⟨w.heap.size, 3, none⟩ = some (.int .i64 l) ∧ W.cell? ⟨w.heap.size, 4, none⟩ = some (.int .i64 c))
        (first
          | exact d3
          | exact d2
          | exact d0)
        (first
          | (go_at_call 85
             refine (HK.out _).mono ?_
             rintro e w2 ⟨rfl, rfl⟩)
          | (go_at_call 86
             refine (HB.out _).mono ?_
             rintro e w2 ⟨rfl, hb2⟩
             have B2 := hid (And.intro (Blk.below B0.out.1.drew hb2 B0.out.1.lt) (B0.out.2.drew.trans (hb2.mono B0.out.2.size)))
             have d2 := HC.out _ B2.out.1
             clear hb2)
          | (go_at_call 87
             refine (HO.out _).mono ?_
             rintro e w3 ⟨rfl, hb2⟩
             have B3 := hid (And.intro (Blk.below B2.out.1 hb2 B2.out.1.lt) (B2.out.2.trans (hb2.mono B2.out.2.size)))
             have d3 := HC.out _ B3.out.1
             clear hb2))
      all_goals
        go_wp2_with fail
        go_ret
        exact ⟨ret_bool (by simp), by first | exact B3.out.2 | exact B3.out.2.drew⟩
end Go.Proofs.YtabklmkdneoaaaaDoor
/- log.put, log.data: the walks. -/
namespace Go.Proofs.YtabklmkdneoaaaaDoor
open Go.RowKit

/-- What a record's unit carries. -/
def recData (k : Int) (s n l c : Nat) : List UInt8 :=
  if k = 50 then [UInt8.ofNat c]
  else if k = 48 then quad s ++ [UInt8.ofNat n]
  else if k = 49 then [UInt8.ofNat n] ++ quad l ++ quad s
  else quad l ++ quad s
theorem own_lits (w : World) (B : Nat) (hB : B ≤ w.heap.size) (xs : List UInt8) (hx : xs.length ≤ 1000) (n c : Nat) (hn : n = xs.length) (hc : c = xs.length) (C : Array Value) (hC : C = (xs.map byteV).toArray) : (w.alloc (.cells C 5)).ownsRow B 5 1 (.slice (some ⟨w.heap.size, 0, none⟩) n c) xs.length (xs.map byteV) := by
  subst hn hc hC
  have := World.ownsRow_lit (size := 1) (base := B) (e := 5) w (xs.map byteV).toArray xs.length hB (by unfold maxLen; omega) (by simp)
  simpa using this
/-- An own row of bytes, held: what was below B stands. -/
def OwnB (B : Nat) (w w' : World) (v : Value) (xs : List UInt8) : Prop := w'.ownsRow B 5 1 v xs.length (xs.map byteV) ∧ Below B w w' ∧ B ≤ w'.heap.size
set_option maxRecDepth 100000 in
set_option maxHeartbeats 1000000 in
theorem gput_any (bv : Value) (xs : List UInt8) (v : Nat) (B : Nat) (w : World) (hown : w.ownsRow B 5 1 bv xs.length (xs.map byteV)) (hB : B ≤ w.heap.size) (_ : v < 4294967296) (hn : xs.length ≤ 1000) :
    Calls Tryd.prog 97 #[bv, .int .i64 v] w fun e w' => ∃ A c, e = .returned (.slice A (xs.length + 4) c) ∧ OwnB B w w' (.slice A (xs.length + 4) c) (xs ++ quad v) := by
  obtain ⟨i0, hi0, hz0, hz1, hz2⟩ := info_parts info_u8
  have IP := hid (And.intro hi0 (And.intro hz0 (And.intro hz1 hz2)))
  obtain ⟨A, c, rfl⟩ := own_slice hown
  have HO := hid (And.intro hown (And.intro hB hn))
  have p1 : IntKind.u8.wrap ((v : Int) / 16777216) = (((UInt8.ofNat (v / 16777216)).toNat : Nat) : Int) := byte_div v 16777216
  have p2 : IntKind.u8.wrap ((v : Int) / 65536) = (((UInt8.ofNat (v / 65536)).toNat : Nat) : Int) := byte_div v 65536
  have p3 : IntKind.u8.wrap ((v : Int) / 256) = (((UInt8.ofNat (v / 256)).toNat : Nat) : Int) := byte_div v 256
  have p4 := byte_self v
  have Q := hid (show quad v = [UInt8.ofNat (v / 16777216), UInt8.ofNat (v / 65536), UInt8.ofNat (v / 256), UInt8.ofNat v] from rfl)
  clear hi0 hz0 hz1 hz2 hown hB hn
  generalize UInt8.ofNat (v / 16777216) = c1 at *
  generalize UInt8.ofNat (v / 65536) = c2 at *
  generalize UInt8.ofNat (v / 256) = c3 at *
  generalize UInt8.ofNat v = c4 at *
  go_enter Tryd.func97, Tryd.ntmps97
  go_wp2_with (at_builtin; refine wpList_append_form _ rfl (.tmp 5) (.tmp 17) _ rfl B 5 i0 (.int .u8 0) 1 1 Tryd.underlying23 IP.out.1 IP.out.2.1 IP.out.2.2.1 IP.out.2.2.2 rfl (by omega) (.slice A xs.length c) xs.length (xs.map byteV) rfl (by exact HO.out.1.alloc _) (.slice (some ⟨w.heap.size, 0, none⟩) 4 4) 4 ([c1, c2, c3, c4].map byteV) rfl (by exact from_block (Blk.new _ _ _) rfl) (one_bytes _) (.inr (by omega)) (by have := HO.out.2.2; unfold maxLen; omega) (by have := HO.out.2.2; omega) (by have := HO.out.2.1; simp; omega) (xs.length + 4) ((xs ++ quad v).map byteV) rfl (by rw [Q.out, List.map_append]) ?_; intro g cap w2 hown hgrow hat hlt)
  have hb : Below B w w2 := (((Below.refl B w).alloc HO.out.2.1 _)).grown hgrow (by have := HO.out.2.1; simp; omega) (fun k hk => (HO.out.1.lt k hk).1)
  go_ret
  refine ⟨_, _, rfl, ?_, hb, by have := hb.size; have := HO.out.2.1; omega⟩
  have e : (xs ++ quad v).length = xs.length + 4 := by rw [List.length_append]; rfl
  rw [e]
  exact hown
/-- A record's fields, as they are where data is asked. -/
def recV (k : Int) (s n l c : Nat) : Value := .agg #[.int .i64 k, .int .i64 s, .int .i64 n, .int .i64 l, .int .i64 c]
def recC (k : Int) (s n l c : Nat) : Array Value := #[.int .i64 k, .int .i64 s, .int .i64 n, .int .i64 l, .int .i64 c]
theorem rec_cells {W : World} {b : Nat} {k : Int} {s n l c : Nat} (h : Blk W b 73 (recC k s n l c)) : W.cell? ⟨b, 0, none⟩ = some (.int .i64 k) ∧ W.cell? ⟨b, 1, none⟩ = some (.int .i64 s) ∧ W.cell? ⟨b, 2, none⟩ = some (.int .i64 n) ∧ W.cell? ⟨b, 3, none⟩ = some (.int .i64 l) ∧ W.cell? ⟨b, 4, none⟩ = some (.int .i64 c) := by
  refine ⟨?_, ?_, ?_, ?_, ?_⟩ <;> (rw [h.cell]; rfl)
def DataRes (xs : List UInt8) (w : World) (e : Ending) (w' : World) : Prop := ∃ A c, e = .returned (.slice A xs.length c) ∧ OwnB w.heap.size w w' (.slice A xs.length c) xs
set_option maxRecDepth 100000 in
set_option maxHeartbeats 1000000 in
theorem gdata_fail (s n l c : Nat) (w : World) : Calls Tryd.prog 90 #[recV 50 s n l c] w (DataRes (recData 50 s n l c) w) := by
  have p4 := byte_self c
  unfold recData recV
  rw [if_pos rfl]
  generalize UInt8.ofNat c = c4 at *
  go_enter Tryd.func90, Tryd.ntmps90
  go_wp2_with fail
  go_ret
  refine ⟨_, _, rfl, ?_, ((Below.refl _ _).alloc (Nat.le_refl _) _).alloc (by simp) _, by simp; omega⟩
  have := own_lits (w.alloc (.cells #[.int .i64 50, .int .i64 s, .int .i64 n, .int .i64 l, .int .i64 c] 73)) w.heap.size (by simp) [c4] (by simp) 1 1 rfl rfl _ rfl
  rw [World.size_alloc] at this
  exact this
set_option maxRecDepth 100000 in
set_option maxHeartbeats 2000000 in
theorem gdata_start (s n l c : Nat) (w : World) (hs : s < 4294967296) : Calls Tryd.prog 90 #[recV 48 s n l c] w (DataRes (recData 48 s n l c) w) := by
  obtain ⟨i0, hi0, hz0, hz1, hz2⟩ := info_parts info_u8
  have IP := hid (And.intro hi0 (And.intro hz0 (And.intro hz1 hz2)))
  have p4 := byte_self n
  have Q := hid (show recData 48 s n l c = quad s ++ [UInt8.ofNat n] from rfl)
  generalize recData 48 s n l c = rd at *
  have B0 := hid (And.intro (Blk.new w 73 (recC 48 s n l c)) ((Below.refl w.heap.size w).alloc (Nat.le_refl _) (.cells (recC 48 s n l c) 73)))
  have D0 := hid (rec_cells B0.out.1)
  have SZ := hid (show (w.alloc (.cells (recC 48 s n l c) 73)).heap.size = w.heap.size + 1 by simp)
  generalize UInt8.ofNat n = c4 at *
  unfold recC at *
  unfold recV
  have HS := hid hs
  clear hi0 hz0 hz1 hz2 hs
  go_enter Tryd.func90, Tryd.ntmps90
  go_wp2_with fail
  obtain ⟨d0, d1, d2, d3, d4⟩ := D0.out
  generalize w.alloc (.cells #[.int .i64 48, .int .i64 s, .int .i64 n, .int .i64 l, .int .i64 c] 73) = wq at *
  have B4 := hid (show Below wq.heap.size wq (wq.alloc (.cells #[.int .u8 c4.toNat] 5)) from (Below.refl _ _).alloc (Nat.le_refl _) _)
  have SZ2 := hid (show (wq.alloc (.cells #[.int .u8 c4.toNat] 5)).heap.size = w.heap.size + 2 by rw [World.size_alloc, SZ.out])
  have F4 := hid (show From (wq.alloc (.cells #[.int .u8 c4.toNat] 5)) 1 (.slice (some ⟨wq.heap.size, 0, none⟩) 1 1) 1 [byteV c4] from from_block (Blk.new _ _ _) rfl)
  go_region_held3 (fun W => W.cell? ⟨w.heap.size, 1, none⟩ = some (.int .i64 s) ∧ W.cell? ⟨w.heap.size, 2, none⟩ = some (.int .i64 n))
    (first
      | exact E3.out
      | exact E2.out
      | exact ⟨d1, d2⟩
      | exact ⟨cell_keep B4.out.drew d1, cell_keep B4.out.drew d2⟩
      | exact ⟨cell_keep B4.out d1, cell_keep B4.out d2⟩)
    (first
      | (go_at_call 97
         refine (gput_any (.slice none 0 0) [] s (w.heap.size + 1) wq.drew (World.ownsRow_nil _ _ _ _) (by rw [← SZ.out]; exact Nat.le_refl _) HS.out (by simp)).mono ?_
         rintro e w2 ⟨A2, c2, rfl, hO⟩
         have hbw : Below wq.heap.size wq w2 := by rw [SZ.out]; exact ⟨hO.2.1.os, hO.2.1.tape, hO.2.1.output, hO.2.1.size, hO.2.1.block⟩
         have E2 := hid (show w2.cell? ⟨w.heap.size, 1, none⟩ = some (.int .i64 s) ∧ w2.cell? ⟨w.heap.size, 2, none⟩ = some (.int .i64 n) from ⟨cell_keep hbw d1, cell_keep hbw d2⟩)
         have O2 := hid (show w2.ownsRow (w.heap.size + 1) 5 1 (.slice A2 4 c2) 4 ((quad s).map byteV) ∧ Below wq.heap.size wq w2 ∧ w.heap.size + 1 ≤ w2.heap.size from And.intro hO.1 (And.intro hbw hO.2.2))
         have hba : Below w2.heap.size w2 (w2.alloc (.cells #[.int .u8 c4.toNat] 5)) := (Below.refl _ _).alloc (Nat.le_refl _) _
         have E3 := hid (show (w2.alloc (.cells #[.int .u8 c4.toNat] 5)).cell? ⟨w.heap.size, 1, none⟩ = some (.int .i64 s) ∧ (w2.alloc (.cells #[.int .u8 c4.toNat] 5)).cell? ⟨w.heap.size, 2, none⟩ = some (.int .i64 n) from ⟨cell_keep hba (cell_keep hbw d1), cell_keep hba (cell_keep hbw d2)⟩)
         have Z3 := hid (show w.heap.size + 1 ≤ (w2.alloc (.cells #[.int .u8 c4.toNat] 5)).heap.size by have := hO.2.2; simp; omega)
         have F3 := hid (show From (w2.alloc (.cells #[.int .u8 c4.toNat] 5)) 1 (.slice (some ⟨w2.heap.size, 0, none⟩) 1 1) 1 [byteV c4] from from_block (Blk.new _ _ _) rfl)
         clear hO hbw hba)
      | (go_at_call 97
         refine (gput_any (.slice none 0 0) [] s (w.heap.size + 2) (wq.alloc (.cells #[.int .u8 c4.toNat] 5)).drew (World.ownsRow_nil _ _ _ _) (by rw [← SZ2.out]; exact Nat.le_refl _) HS.out (by simp)).mono ?_
         rintro e w2 ⟨A2, c2, rfl, hO⟩
         have hbw : Below (wq.alloc (.cells #[.int .u8 c4.toNat] 5)).heap.size (wq.alloc (.cells #[.int .u8 c4.toNat] 5)) w2 := by rw [SZ2.out]; exact ⟨hO.2.1.os, hO.2.1.tape, hO.2.1.output, hO.2.1.size, hO.2.1.block⟩
         have E2 := hid (show w2.cell? ⟨w.heap.size, 1, none⟩ = some (.int .i64 s) ∧ w2.cell? ⟨w.heap.size, 2, none⟩ = some (.int .i64 n) from ⟨cell_keep hbw (cell_keep B4.out d1), cell_keep hbw (cell_keep B4.out d2)⟩)
         have O2 := hid (show w2.ownsRow (w.heap.size + 1) 5 1 (.slice A2 4 c2) 4 ((quad s).map byteV) ∧ Below wq.heap.size wq w2 ∧ w.heap.size + 1 ≤ w2.heap.size from And.intro (own_mono hO.1 (by omega)) (And.intro (B4.out.trans (hbw.mono B4.out.size)) (by have := hO.2.2; omega)))
         have F2 := hid (show From w2 1 (.slice (some ⟨wq.heap.size, 0, none⟩) 1 1) 1 [byteV c4] from from_keep F4.out hbw)
         clear hO hbw)
      | (refine step_append_form _ (by rfl) (.tmp 19) (.tmp 23) _ (by rfl) (w.heap.size + 1) 5 i0 (.int .u8 0) 1 1 Tryd.underlying23 IP.out.1 IP.out.2.1 IP.out.2.2.1 IP.out.2.2.2 rfl (by omega) (.slice A2 4 c2) 4 ((quad s).map byteV) (by rfl) (by first | exact O2.out.1.alloc _ | exact (O2.out.1.alloc _).drew) (.slice (some ⟨w2.heap.size, 0, none⟩) 1 1) 1 [byteV c4] (by rfl) (by first | exact F3.out | exact F3.out.drew) (one_bytes [c4]) (.inr (by omega)) (by unfold maxLen; omega) (by omega) (by exact Z3.out) 5 (rd.map byteV) rfl (by rw [Q.out, List.map_append]; rfl) ?_
         intro g cap w3 hown hgrow hat hlt
         have hb3 : Below wq.heap.size wq w3 := by
           have h1 := O2.out.2.1.alloc O2.out.2.1.size (.cells #[.int .u8 c4.toNat] 5)
           have hgw : (w2.alloc (.cells #[.int .u8 c4.toNat] 5)).grownBy w3 (Value.slice A2 4 c2).ownBlock := ⟨hgrow.os, hgrow.tape, hgrow.output, hgrow.size, hgrow.block⟩
           exact h1.grown hgw h1.size (fun k hk => by rw [SZ.out]; exact (O2.out.1.lt k hk).1)
         have E2 := hid (show w3.cell? ⟨w.heap.size, 1, none⟩ = some (.int .i64 s) ∧ w3.cell? ⟨w.heap.size, 2, none⟩ = some (.int .i64 n) from ⟨cell_keep hb3 d1, cell_keep hb3 d2⟩)
         have O3 := hid (And.intro hown hb3)
         clear hown hb3 hgrow hat hlt)
      | (refine step_append_form _ (by rfl) (.tmp 19) (.tmp 23) _ (by rfl) (w.heap.size + 1) 5 i0 (.int .u8 0) 1 1 Tryd.underlying23 IP.out.1 IP.out.2.1 IP.out.2.2.1 IP.out.2.2.2 rfl (by omega) (.slice A2 4 c2) 4 ((quad s).map byteV) (by rfl) (by first | exact O2.out.1 | exact O2.out.1.drew) (.slice (some ⟨wq.heap.size, 0, none⟩) 1 1) 1 [byteV c4] (by rfl) (by first | exact F2.out | exact F2.out.drew) (one_bytes [c4]) (.inr (by omega)) (by unfold maxLen; omega) (by omega) (by exact O2.out.2.2) 5 (rd.map byteV) rfl (by rw [Q.out, List.map_append]; rfl) ?_
         intro g cap w3 hown hgrow hat hlt
         have hb3 : Below wq.heap.size wq w3 := by
           have h1 := O2.out.2.1
           have hgw : w2.grownBy w3 (Value.slice A2 4 c2).ownBlock := ⟨hgrow.os, hgrow.tape, hgrow.output, hgrow.size, hgrow.block⟩
           exact h1.grown hgw h1.size (fun k hk => by rw [SZ.out]; exact (O2.out.1.lt k hk).1)
         have E2 := hid (show w3.cell? ⟨w.heap.size, 1, none⟩ = some (.int .i64 s) ∧ w3.cell? ⟨w.heap.size, 2, none⟩ = some (.int .i64 n) from ⟨cell_keep hb3 d1, cell_keep hb3 d2⟩)
         have O3 := hid (And.intro hown hb3)
         clear hown hb3 hgrow hat hlt)
      | fail)
  all_goals
    go_wp2_with fail
    go_ret
    have hrl : rd.length = 5 := by rw [Q.out]; rfl
    unfold DataRes
    rw [hrl]
    have hb := B0.out.2.trans (O3.out.2.mono B0.out.2.size)
    refine ⟨_, _, rfl, ?_, ?_, ?_⟩
    · rw [hrl]; first | exact own_mono O3.out.1 (by omega) | exact own_mono O3.out.1.drew (by omega)
    · first | exact hb | exact hb.drew
    · first | exact hb.size | exact hb.drew.size
end Go.Proofs.YtabklmkdneoaaaaDoor
/- log.data: the walks of the longer kinds. -/
namespace Go.Proofs.YtabklmkdneoaaaaDoor
open Go.RowKit

set_option maxRecDepth 100000 in
set_option maxHeartbeats 2000000 in
theorem gdata_end (s n l c : Nat) (w : World) (hs : s < 4294967296) (hl : l < 4294967296) : Calls Tryd.prog 90 #[recV 51 s n l c] w (DataRes (recData 51 s n l c) w) := by
  obtain ⟨i0, hi0, hz0, hz1, hz2⟩ := info_parts info_u8
  have IP := hid (And.intro hi0 (And.intro hz0 (And.intro hz1 hz2)))
  have p4 := byte_self n
  have B0 := hid (And.intro (Blk.new w 73 (recC 51 s n l c)) ((Below.refl w.heap.size w).alloc (Nat.le_refl _) (.cells (recC 51 s n l c) 73)))
  have D0 := hid (rec_cells B0.out.1)
  have SZ := hid (show (w.alloc (.cells (recC 51 s n l c) 73)).heap.size = w.heap.size + 1 by simp)
  have Q := hid (show recData 51 s n l c = ([] ++ quad l) ++ quad s from rfl)
  generalize recData 51 s n l c = rd at *
  have HS := hid (And.intro hs hl)
  unfold recC at *
  unfold recV
  clear hi0 hz0 hz1 hz2 hs hl p4
  go_enter Tryd.func90, Tryd.ntmps90
  go_wp2_with fail
  obtain ⟨d0, d1, d2, d3, d4⟩ := D0.out
  generalize w.alloc (.cells #[.int .i64 51, .int .i64 s, .int .i64 n, .int .i64 l, .int .i64 c] 73) = wq at *
  have G0 := hid (show wq.ownsRow (w.heap.size + 1) 5 1 (.slice none 0 0) ([] : List UInt8).length (([] : List UInt8).map byteV) ∧ True ∧ w.heap.size + 1 ≤ wq.heap.size from ⟨World.ownsRow_nil _ _ _ _, trivial, by rw [SZ.out]; exact Nat.le_refl _⟩)
  go_region_held3 (fun W => W.cell? ⟨w.heap.size, 1, none⟩ = some (.int .i64 s) ∧ W.cell? ⟨w.heap.size, 3, none⟩ = some (.int .i64 l))
    (first
      | exact E3.out
      | exact E2.out
      | exact ⟨d1, d3⟩)
    (first
      | (go_at_call 97
         refine (gput_any (.slice A2 (([] : List UInt8).length + 4) c2) (([] : List UInt8) ++ quad l) s (w.heap.size + 1) _ (by first | exact O2.out.1 | exact O2.out.1.drew) (by exact O2.out.2.2) HS.out.1 (by simp [quad])).mono ?_
         rintro e w3 ⟨A3, c3, rfl, hO⟩
         have hbw : Below (w.heap.size + 1) w2 w3 := ⟨hO.2.1.os, hO.2.1.tape, hO.2.1.output, hO.2.1.size, hO.2.1.block⟩
         have E3 := hid (show w3.cell? ⟨w.heap.size, 1, none⟩ = some (.int .i64 s) ∧ w3.cell? ⟨w.heap.size, 3, none⟩ = some (.int .i64 l) from ⟨(hbw.cell (p := ⟨w.heap.size, 1, none⟩) (by simp)).trans E2.out.1, (hbw.cell (p := ⟨w.heap.size, 3, none⟩) (by simp)).trans E2.out.2⟩)
         have O3 := hid (And.intro hO.1 (O2.out.2.1.trans hbw))
         clear hO hbw)
      | (go_at_call 97
         refine (gput_any (.slice none 0 0) ([] : List UInt8) l (w.heap.size + 1) (wq).drew (G0.out.1).drew (G0.out.2).2 HS.out.2 (by simp)).mono ?_
         rintro e w2 ⟨A2, c2, rfl, hO⟩
         have hbw : Below (w.heap.size + 1) (wq) w2 := ⟨hO.2.1.os, hO.2.1.tape, hO.2.1.output, hO.2.1.size, hO.2.1.block⟩
         have E2 := hid (show w2.cell? ⟨w.heap.size, 1, none⟩ = some (.int .i64 s) ∧ w2.cell? ⟨w.heap.size, 3, none⟩ = some (.int .i64 l) from ⟨(hbw.cell (p := ⟨w.heap.size, 1, none⟩) (by simp)).trans d1, (hbw.cell (p := ⟨w.heap.size, 3, none⟩) (by simp)).trans d3⟩)
         have O2 := hid (show w2.ownsRow (w.heap.size + 1) 5 1 (.slice A2 (([] : List UInt8).length + 4) c2) (([] : List UInt8) ++ quad l).length ((([] : List UInt8) ++ quad l).map byteV) ∧ Below (w.heap.size + 1) (wq) w2 ∧ w.heap.size + 1 ≤ w2.heap.size from And.intro hO.1 (And.intro hbw hO.2.2))
         clear hO hbw)
      | fail)
  all_goals
    go_wp2_with fail
    go_ret
    have hrl : rd.length = 8 := by rw [Q.out]; rfl
    unfold DataRes
    rw [hrl]
    have hb : Below w.heap.size w w3 := B0.out.2.trans ⟨O3.out.2.os, O3.out.2.tape, O3.out.2.output, O3.out.2.size, fun k hk => O3.out.2.block k (by omega)⟩
    have ho := O3.out.1
    rw [← Q.out, hrl] at ho
    refine ⟨_, _, rfl, ?_, ?_, ?_⟩
    · rw [hrl]; first | exact own_mono ho (by omega) | exact own_mono ho.drew (by omega)
    · first | exact hb | exact hb.drew
    · first | exact hb.size | exact hb.drew.size
set_option maxRecDepth 100000 in
set_option maxHeartbeats 2000000 in
theorem gdata_done (s n l c : Nat) (w : World) (hs : s < 4294967296) (hl : l < 4294967296) : Calls Tryd.prog 90 #[recV 49 s n l c] w (DataRes (recData 49 s n l c) w) := by
  obtain ⟨i0, hi0, hz0, hz1, hz2⟩ := info_parts info_u8
  have IP := hid (And.intro hi0 (And.intro hz0 (And.intro hz1 hz2)))
  have p4 := byte_self n
  have B0 := hid (And.intro (Blk.new w 73 (recC 49 s n l c)) ((Below.refl w.heap.size w).alloc (Nat.le_refl _) (.cells (recC 49 s n l c) 73)))
  have D0 := hid (rec_cells B0.out.1)
  have SZ := hid (show (w.alloc (.cells (recC 49 s n l c) 73)).heap.size = w.heap.size + 1 by simp)
  have Q := hid (show recData 49 s n l c = ([UInt8.ofNat n] ++ quad l) ++ quad s from rfl)
  generalize recData 49 s n l c = rd at *
  generalize UInt8.ofNat n = c4 at *
  have HS := hid (And.intro hs hl)
  unfold recC at *
  unfold recV
  clear hi0 hz0 hz1 hz2 hs hl
  go_enter Tryd.func90, Tryd.ntmps90
  go_wp2_with (at_builtin; refine wpList_append_form _ rfl (.tmp 25) (.tmp 29) _ rfl (w.heap.size + 1) 5 i0 (.int .u8 0) 1 1 Tryd.underlying23 IP.out.1 IP.out.2.1 IP.out.2.2.1 IP.out.2.2.2 rfl (by omega) (.slice none 0 0) 0 [] rfl (World.ownsRow_nil _ _ _ _) (.slice (some ⟨w.heap.size + 1, 0, none⟩) 1 1) 1 [byteV c4] rfl (by exact from_block (blk_new_at (w := w.alloc (.cells #[.int .i64 49, .int .i64 s, .int .i64 n, .int .i64 l, .int .i64 c] 73)) (by simp) _ _) rfl) (one_bytes [c4]) (.inr (by omega)) (by unfold maxLen; omega) (by omega) (by simp) 1 [byteV c4] rfl rfl ?_; intro g cap w1 hown hgrow hat hlt)
  have hb1 : Below (w.heap.size + 1) (w.alloc (.cells #[.int .i64 49, .int .i64 s, .int .i64 n, .int .i64 l, .int .i64 c] 73)) w1 := ((Below.refl _ _).alloc (by rw [SZ.out]; exact Nat.le_refl _) _).grown hgrow (by simp) (fun k hk => by simp [Value.ownBlock] at hk)
  obtain ⟨d0, d1, d2, d3, d4⟩ := D0.out
  replace d1 := (hb1.cell (p := ⟨w.heap.size, 1, none⟩) (by simp)).trans d1
  replace d3 := (hb1.cell (p := ⟨w.heap.size, 3, none⟩) (by simp)).trans d3
  have G0 := hid (show w1.ownsRow (w.heap.size + 1) 5 1 (.slice (some ⟨g, 0, none⟩) 1 cap) ([c4] : List UInt8).length (([c4] : List UInt8).map byteV) ∧ Below (w.heap.size + 1) (w.alloc (.cells #[.int .i64 49, .int .i64 s, .int .i64 n, .int .i64 l, .int .i64 c] 73)) w1 ∧ w.heap.size + 1 ≤ w1.heap.size from ⟨hown, hb1, by have := hb1.size; rw [SZ.out] at this; exact this⟩)
  clear hb1 hown hgrow hat hlt d0 d2 d4
  go_region_held3 (fun W => W.cell? ⟨w.heap.size, 1, none⟩ = some (.int .i64 s) ∧ W.cell? ⟨w.heap.size, 3, none⟩ = some (.int .i64 l))
    (first
      | exact E3.out
      | exact E2.out
      | exact ⟨d1, d3⟩)
    (first
      | (go_at_call 97
         refine (gput_any (.slice A2 (([c4] : List UInt8).length + 4) c2) (([c4] : List UInt8) ++ quad l) s (w.heap.size + 1) _ (by first | exact O2.out.1 | exact O2.out.1.drew) (by exact O2.out.2.2) HS.out.1 (by simp [quad])).mono ?_
         rintro e w3 ⟨A3, c3, rfl, hO⟩
         have hbw : Below (w.heap.size + 1) w2 w3 := ⟨hO.2.1.os, hO.2.1.tape, hO.2.1.output, hO.2.1.size, hO.2.1.block⟩
         have E3 := hid (show w3.cell? ⟨w.heap.size, 1, none⟩ = some (.int .i64 s) ∧ w3.cell? ⟨w.heap.size, 3, none⟩ = some (.int .i64 l) from ⟨(hbw.cell (p := ⟨w.heap.size, 1, none⟩) (by simp)).trans E2.out.1, (hbw.cell (p := ⟨w.heap.size, 3, none⟩) (by simp)).trans E2.out.2⟩)
         have O3 := hid (And.intro hO.1 (O2.out.2.1.trans hbw))
         clear hO hbw)
      | (go_at_call 97
         refine (gput_any (.slice (some ⟨g, 0, none⟩) 1 cap) ([c4] : List UInt8) l (w.heap.size + 1) (w1).drew (G0.out.1).drew (G0.out.2).2 HS.out.2 (by simp)).mono ?_
         rintro e w2 ⟨A2, c2, rfl, hO⟩
         have hbw : Below (w.heap.size + 1) (w1) w2 := ⟨hO.2.1.os, hO.2.1.tape, hO.2.1.output, hO.2.1.size, hO.2.1.block⟩
         have E2 := hid (show w2.cell? ⟨w.heap.size, 1, none⟩ = some (.int .i64 s) ∧ w2.cell? ⟨w.heap.size, 3, none⟩ = some (.int .i64 l) from ⟨(hbw.cell (p := ⟨w.heap.size, 1, none⟩) (by simp)).trans d1, (hbw.cell (p := ⟨w.heap.size, 3, none⟩) (by simp)).trans d3⟩)
         have O2 := hid (show w2.ownsRow (w.heap.size + 1) 5 1 (.slice A2 (([c4] : List UInt8).length + 4) c2) (([c4] : List UInt8) ++ quad l).length ((([c4] : List UInt8) ++ quad l).map byteV) ∧ Below (w.heap.size + 1) (w1) w2 ∧ w.heap.size + 1 ≤ w2.heap.size from And.intro hO.1 (And.intro hbw hO.2.2))
         clear hO hbw)
      | fail)
  all_goals
    go_wp2_with fail
    go_ret
    have hrl : rd.length = 9 := by rw [Q.out]; rfl
    unfold DataRes
    rw [hrl]
    have hb : Below w.heap.size w w3 := B0.out.2.trans ⟨(G0.out.2.1.trans O3.out.2).os, (G0.out.2.1.trans O3.out.2).tape, (G0.out.2.1.trans O3.out.2).output, (G0.out.2.1.trans O3.out.2).size, fun k hk => (G0.out.2.1.trans O3.out.2).block k (by omega)⟩
    have ho := O3.out.1
    rw [← Q.out, hrl] at ho
    refine ⟨_, _, rfl, ?_, ?_, ?_⟩
    · rw [hrl]; first | exact own_mono ho (by omega) | exact own_mono ho.drew (by omega)
    · first | exact hb | exact hb.drew
    · first | exact hb.size | exact hb.drew.size
end Go.Proofs.YtabklmkdneoaaaaDoor
/- log.Pack: the walk. -/
namespace Go.Proofs.YtabklmkdneoaaaaDoor
open Go.RowKit

def packNo (r : RecS) : Int := if kindB r.kind = false then 13 else if mayR r = false then 3 else 0
def recBytes (r : RecS) : List UInt8 := recData r.kind r.sum.toNat r.num.toNat r.len.toNat r.code.toNat
/-- The bytes of a record's unit; none where none is made. -/
def packU (r : RecS) : List UInt8 := if packNo r = 0 then unitBytes r.kind.toNat (recBytes r) else []
theorem recData_len (k : Int) (s n l c : Nat) : (recData k s n l c).length ≤ 9 := by
  unfold recData
  repeat' split
  all_goals simp [quad]
/-- A record that may be one has fields that are numbers. -/
theorem may_nat {r : RecS} (h : mayR r = true) : ∃ k s n l c : Nat, r = ⟨k, s, n, l, c⟩ ∧ (k = 48 ∨ k = 49 ∨ k = 50 ∨ k = 51) ∧ s < 4294967296 ∧ n ≤ 16 ∧ l ≤ 16777216 ∧ c ≤ 15 ∧ kindB r.kind = true := by
  obtain ⟨k, s, n, l, c⟩ := r
  unfold mayR sumB lenB at h
  dsimp only at h
  by_cases h48 : k = 48
  · subst h48
    simp at h
    exact ⟨48, s.toNat, n.toNat, l.toNat, c.toNat, by simp; omega, by omega, by omega, by omega, by omega, by omega, rfl⟩
  by_cases h49 : k = 49
  · subst h49
    simp at h
    exact ⟨49, s.toNat, n.toNat, l.toNat, c.toNat, by simp; omega, by omega, by omega, by omega, by omega, by omega, rfl⟩
  by_cases h50 : k = 50
  · subst h50
    simp at h
    exact ⟨50, s.toNat, n.toNat, l.toNat, c.toNat, by simp; omega, by omega, by omega, by omega, by omega, by omega, rfl⟩
  by_cases h51 : k = 51
  · subst h51
    simp at h
    exact ⟨51, s.toNat, n.toNat, l.toNat, c.toNat, by simp; omega, by omega, by omega, by omega, by omega, by omega, rfl⟩
  simp [h48, h49, h50, h51] at h
theorem gdata_any (k s n l c : Nat) (w : World) (hk : k = 48 ∨ k = 49 ∨ k = 50 ∨ k = 51) (hs : s < 4294967296) (hl : l < 4294967296) : Calls Tryd.prog 90 #[recV k s n l c] w (DataRes (recData k s n l c) w) := by
  rcases hk with rfl | rfl | rfl | rfl
  · exact gdata_start s n l c w hs
  · exact gdata_done s n l c w hs hl
  · exact gdata_fail s n l c w
  · exact gdata_end s n l c w hs hl
def PackRes (r : RecS) (w : World) (e : Ending) (w' : World) : Prop :=
  ∃ A c, e = .returned (.tuple #[.slice A (packU r).length c, codeV (packNo r)]) ∧ w'.ownsRow w.heap.size 5 1 (.slice A (packU r).length c) (packU r).length ((packU r).map byteV) ∧ Below w.heap.size w w'
set_option maxRecDepth 100000 in
set_option maxHeartbeats 1000000 in
theorem gpack_kind (r : RecS) (w : World) (h : kindB r.kind = false) : Calls Tryd.prog 59 #[r.val] w (PackRes r w) := by
  have hN : packNo r = 13 := by unfold packNo; rw [if_pos h]
  have hU : packU r = [] := by unfold packU; rw [hN]; rfl
  have hC : codeV 13 = .iface 29 (.int .i64 13) := rfl
  unfold PackRes
  rw [hN, hU, hC]
  obtain ⟨k, s, n, l, c⟩ := r
  have HK : Hid (∀ W, Calls Tryd.prog 85 #[.int .i64 k] W fun e w' => e = .returned (.bool false) ∧ W = w') := fun W => (gkind_any k W).mono fun _ _ h' => ⟨by rw [h'.1]; rw [show kindB k = false from h], h'.2⟩
  unfold RecS.val
  dsimp only
  clear hN hU hC h
  go_enter Tryd.func59, Tryd.ntmps59
  go_wp2_with (go_at_call 85; refine (HK.out _).mono ?_; rintro e w2 ⟨rfl, rfl⟩)
  go_ret2
  exact ⟨none, 0, rfl, World.ownsRow_nil _ _ _ _, (Below.refl _ _).alloc (Nat.le_refl _) _⟩
set_option maxRecDepth 100000 in
set_option maxHeartbeats 1000000 in
theorem gpack_range (r : RecS) (w : World) (h : kindB r.kind = true) (hm : mayR r = false) : Calls Tryd.prog 59 #[r.val] w (PackRes r w) := by
  have hN : packNo r = 3 := by unfold packNo; rw [if_neg (by rw [h]; simp), if_pos hm]
  have hU : packU r = [] := by unfold packU; rw [hN]; rfl
  have hC : codeV 3 = .iface 29 (.int .i64 3) := rfl
  unfold PackRes
  rw [hN, hU, hC]
  have HM := hid (fun W => gmay_any r W)
  rw [hm] at HM
  obtain ⟨k, s, n, l, c⟩ := r
  have HK : Hid (∀ W, Calls Tryd.prog 85 #[.int .i64 k] W fun e w' => e = .returned (.bool true) ∧ W = w') := fun W => (gkind_any k W).mono fun _ _ h' => ⟨by rw [h'.1]; rw [show kindB k = true from h], h'.2⟩
  unfold RecS.val at *
  dsimp only at *
  clear hN hU hC h hm
  go_enter Tryd.func59, Tryd.ntmps59
  go_wp2_with fail
  refine (HK.out _).mono ?_
  rintro e w2 ⟨rfl, rfl⟩
  go_wp2_with fail
  refine (HM.out _).mono ?_
  rintro e w3 ⟨rfl, hb⟩
  have B3 := hid (((Below.refl w.heap.size w).alloc (Nat.le_refl _) _).trans (hb.mono (by simp)))
  clear hb
  go_wp2_with fail
  go_ret2
  exact ⟨none, 0, rfl, World.ownsRow_nil _ _ _ _, B3.out⟩
set_option maxRecDepth 100000 in
set_option maxHeartbeats 2000000 in
theorem gpack_made (r : RecS) (w : World) (hm : mayR r = true) : Calls Tryd.prog 59 #[r.val] w (PackRes r w) := by
  obtain ⟨k, s, n, l, c, hr, hk, hs, hn, hl, hc, hkb⟩ := may_nat hm
  have hN : packNo r = 0 := by unfold packNo; rw [if_neg (by rw [hkb]; simp), if_neg (by rw [hm]; simp)]
  have hU : packU r = unitBytes k (recData k s n l c) := by unfold packU; rw [hN, hr]; rfl
  have hC : codeV 0 = .nilIface := rfl
  unfold PackRes
  rw [hN, hU, hC]
  have hlen := recData_len k s n l c
  have HM := hid (fun W => gmay_any r W)
  rw [hm] at HM
  have HK : Hid (∀ W, Calls Tryd.prog 85 #[.int .i64 k] W fun e w' => e = .returned (.bool true) ∧ W = w') := fun W => (gkind_any k W).mono fun _ _ h' => ⟨by rw [h'.1]; rw [show kindB (k : Int) = true by rw [hr] at hkb; exact hkb], h'.2⟩
  have HD := hid (fun W => gdata_any k s n l c W hk hs (by omega))
  subst hr
  clear hN hU hC hkb hm
  have HU := hid (fun W x (hx : Byt W x (recData k s n l c)) => made_unit k x _ W hx (by omega) (by omega) (by omega))
  unfold RecS.val recV DataRes at *
  dsimp only at *
  generalize recData k s n l c = rd at *
  generalize unitBytes k rd = ub at *
  unfold MadeRes at HU
  have B0 := hid (And.intro (Blk.new w 73 (recC k s n l c)) ((Below.refl w.heap.size w).alloc (Nat.le_refl _) (.cells (recC k s n l c) 73)))
  unfold recC at B0
  clear hk hs hn hl hc hlen
  go_enter Tryd.func59, Tryd.ntmps59
  go_wp2_with fail
  refine (HK.out _).mono ?_
  rintro e w2 ⟨rfl, rfl⟩
  go_wp2_with fail
  refine (HM.out _).mono ?_
  rintro e w3 ⟨rfl, hb⟩
  have B3 := hid (And.intro (B0.out.1.below hb B0.out.1.lt) (B0.out.2.trans (hb.mono B0.out.2.size)))
  clear hb
  obtain ⟨d0, d1, d2, d3, d4⟩ := rec_cells B3.out.1
  go_wp2_with fail
  go_region_held3 (fun W => W.cell? ⟨w.heap.size, 0, none⟩ = some (.int .i64 k) ∧ W.cell? ⟨w.heap.size, 1, none⟩ = some (.int .i64 s) ∧ W.cell? ⟨w.heap.size, 2, none⟩ = some (.int .i64 n) ∧ W.cell? ⟨w.heap.size, 3, none⟩ = some (.int .i64 l) ∧ W.cell? ⟨w.heap.size, 4, none⟩ = some (.int .i64 c))
    (first
      | exact E5.out
      | exact E4.out
      | exact ⟨d0, d1, d2, d3, d4⟩)
    (first
      | (go_at_call 22
         refine (HU.out _ _ (by first | exact O4.out.1 | exact O4.out.1.drew)).mono ?_
         rintro e w5 ⟨g, cap, rfl, ho, hb⟩
         have hbw : Below w4.heap.size w4 w5 := by first | exact hb | exact ⟨hb.os, hb.tape, hb.output, hb.size, hb.block⟩
         have E5 := hid (rec_cells (Blk.below O4.out.2.1 hbw O4.out.2.1.lt))
         have O5 := hid (And.intro ho (O4.out.2.2.trans (hbw.mono O4.out.2.2.size)))
         have Z5 := hid O4.out.2.2.size
         clear ho hb hbw)
      | (go_at_call 90
         refine (HD.out _).mono ?_
         rintro e w4 ⟨A4, c4, rfl, hO⟩
         have hbw : Below w3.heap.size w3 w4 := by first | exact hO.2.1 | exact ⟨hO.2.1.os, hO.2.1.tape, hO.2.1.output, hO.2.1.size, hO.2.1.block⟩
         have E4 := hid (rec_cells (Blk.below B3.out.1 hbw B3.out.1.lt))
         have O4 := hid (And.intro (Byt.of_own hO.1 rfl) (And.intro (Blk.below B3.out.1 hbw B3.out.1.lt) (B3.out.2.trans (hbw.mono B3.out.2.size))))
         clear hO hbw)
      | fail)
  all_goals
    go_wp2_with fail
    go_ret2
    have ho := own_mono O5.out.1 (B' := w.heap.size) (by first | exact Z5.out | exact Z5.out)
    refine ⟨_, _, rfl, ?_, ?_⟩
    · first | exact ho | exact ho.drew
    · first | exact O5.out.2 | exact O5.out.2.drew
theorem gpack_any (r : RecS) (w : World) : Calls Tryd.prog 59 #[r.val] w (PackRes r w) := by
  cases h : kindB r.kind
  · exact gpack_kind r w h
  · cases hm : mayR r
    · exact gpack_range r w h hm
    · exact gpack_made r w hm
end Go.Proofs.YtabklmkdneoaaaaDoor
