/- kinref4.Make: the walk. -/
import Derived.Test.YtabklmkdneoaaaaDoorUNumber
import Derived.Test.YtabklmkdneoaaaaDoorErrSame
namespace Go.Proofs.YtabklmkdneoaaaaDoor
open Go.RowKit

set_option maxHeartbeats 800000 in
theorem rmake_no (k : Int) (x : Value) (bs : List UInt8) (w : World) (hx : Byt w x bs) (hn : makeNo k bs.length ≠ 0) :
    Calls Tryd.prog 32 #[.int .i64 k, x] w fun e w' => e = .returned (.tuple #[.slice none 0 0, .agg #[.int .i64 (makeNo k bs.length), .slice none 0 0]]) ∧ Below w.heap.size w w' := by
  obtain ⟨A, c, rfl, hc⟩ := hx.form
  clear hx
  have hcase : (k < 0 ∧ makeNo k bs.length = 13) ∨ (¬ k < 0 ∧ 255 < k ∧ makeNo k bs.length = 13) ∨ (k = 0 ∧ 0 < bs.length ∧ makeNo k bs.length = 13) ∨ (1 ≤ k ∧ k ≤ 255 ∧ 65536 < bs.length ∧ makeNo k bs.length = 5) := by
    unfold makeNo at *
    split at hn
    · rename_i h
      rw [if_pos h]
      omega
    · rename_i h
      rw [if_neg h]
      split at hn
      · rename_i h2
        rw [if_pos h2]
        by_cases h3 : k = 0 <;> omega
      · exact absurd rfl hn
  clear hn
  rcases hcase with ⟨h1, h2⟩ | ⟨h1, h3, h2⟩ | ⟨rfl, h3, h2⟩ | ⟨h1, h3, h4, h2⟩
  · rw [h2]
    clear h2
    go_enter Tryd.func32, Tryd.ntmps32
    go_wp2_with fail
    refine (fail_any 13 _).mono ?_
    rintro e w2 ⟨rfl, hb⟩
    have R := (Blk.new w 32 #[.int .i64 0, .slice none 0 0]).below hb (by simp)
    have r0 := R.cell 0
    have r1 := R.cell 1
    have rf0 := R.frozen 0
    have rf1 := R.frozen 1
    simp at r0 r1
    have HB : Hid (Below w.heap.size w w2) := ((Below.refl _ _).alloc (Nat.le_refl _) _).trans (hb.mono (by simp))
    have RR := hid R
    clear hb R
    go_wp2_with fail
    have k2 := RR.out.put 0 (.int .i64 13)
    have k3 := k2.put 1 (.slice none 0 0)
    have h0 := k2.cell 0
    have h1 := k3.cell 1
    simp at h0 h1
    have hOn : Only (fun k => k = w.heap.size) w2 ((w2.setCell ⟨w.heap.size, 0, none⟩ (.int .i64 13)).setCell ⟨w.heap.size, 1, none⟩ (.slice none 0 0)) := ((Only.refl (fun k => k = w.heap.size) w2).put (b := w.heap.size) rfl 0 _).put (b := w.heap.size) rfl 1 _
    refine bodyPost_ret (v := .tuple #[.slice none 0 0, .agg #[.int .i64 13, .slice none 0 0]]) ?_ rfl ⟨rfl, HB.out.trans ⟨hOn.os, hOn.tape, hOn.output, hOn.size, fun k hk => hOn.block k (by have := HB.out.size; omega) (by omega)⟩⟩
    simp [results, Tryd.results32, go_sem, h0, h1]
  · rw [h2]
    clear h2
    go_enter Tryd.func32, Tryd.ntmps32
    go_wp2_with fail
    refine (fail_any 13 _).mono ?_
    rintro e w2 ⟨rfl, hb⟩
    have R := (Blk.new w 32 #[.int .i64 0, .slice none 0 0]).below hb (by simp)
    have r0 := R.cell 0
    have r1 := R.cell 1
    have rf0 := R.frozen 0
    have rf1 := R.frozen 1
    simp at r0 r1
    have HB : Hid (Below w.heap.size w w2) := ((Below.refl _ _).alloc (Nat.le_refl _) _).trans (hb.mono (by simp))
    have RR := hid R
    clear hb R
    go_wp2_with fail
    have k2 := RR.out.put 0 (.int .i64 13)
    have k3 := k2.put 1 (.slice none 0 0)
    have h0 := k2.cell 0
    have h1 := k3.cell 1
    simp at h0 h1
    have hOn : Only (fun k => k = w.heap.size) w2 ((w2.setCell ⟨w.heap.size, 0, none⟩ (.int .i64 13)).setCell ⟨w.heap.size, 1, none⟩ (.slice none 0 0)) := ((Only.refl (fun k => k = w.heap.size) w2).put (b := w.heap.size) rfl 0 _).put (b := w.heap.size) rfl 1 _
    refine bodyPost_ret (v := .tuple #[.slice none 0 0, .agg #[.int .i64 13, .slice none 0 0]]) ?_ rfl ⟨rfl, HB.out.trans ⟨hOn.os, hOn.tape, hOn.output, hOn.size, fun k hk => hOn.block k (by have := HB.out.size; omega) (by omega)⟩⟩
    simp [results, Tryd.results32, go_sem, h0, h1]
  · rw [h2]
    clear h2
    go_enter Tryd.func32, Tryd.ntmps32
    go_wp2_with fail
    refine (fail_any 13 _).mono ?_
    rintro e w2 ⟨rfl, hb⟩
    have R := (Blk.new w 32 #[.int .i64 0, .slice none 0 0]).below hb (by simp)
    have r0 := R.cell 0
    have r1 := R.cell 1
    have rf0 := R.frozen 0
    have rf1 := R.frozen 1
    simp at r0 r1
    have HB : Hid (Below w.heap.size w w2) := ((Below.refl _ _).alloc (Nat.le_refl _) _).trans (hb.mono (by simp))
    have RR := hid R
    clear hb R
    go_wp2_with fail
    have k2 := RR.out.put 0 (.int .i64 13)
    have k3 := k2.put 1 (.slice none 0 0)
    have h0 := k2.cell 0
    have h1 := k3.cell 1
    simp at h0 h1
    have hOn : Only (fun k => k = w.heap.size) w2 ((w2.setCell ⟨w.heap.size, 0, none⟩ (.int .i64 13)).setCell ⟨w.heap.size, 1, none⟩ (.slice none 0 0)) := ((Only.refl (fun k => k = w.heap.size) w2).put (b := w.heap.size) rfl 0 _).put (b := w.heap.size) rfl 1 _
    refine bodyPost_ret (v := .tuple #[.slice none 0 0, .agg #[.int .i64 13, .slice none 0 0]]) ?_ rfl ⟨rfl, HB.out.trans ⟨hOn.os, hOn.tape, hOn.output, hOn.size, fun k hk => hOn.block k (by have := HB.out.size; omega) (by omega)⟩⟩
    simp [results, Tryd.results32, go_sem, h0, h1]
  · rw [h2]
    clear h2
    have h5 : (k == 0) = false := by simp; omega
    have h6 : decide (65536 < (bs.length : Int)) = true := by simp; omega
    go_enter Tryd.func32, Tryd.ntmps32
    go_wp2_with fail
    refine (fail_any 5 _).mono ?_
    rintro e w2 ⟨rfl, hb⟩
    have R := (Blk.new w 32 #[.int .i64 0, .slice none 0 0]).below hb (by simp)
    have r0 := R.cell 0
    have r1 := R.cell 1
    have rf0 := R.frozen 0
    have rf1 := R.frozen 1
    simp at r0 r1
    have HB : Hid (Below w.heap.size w w2) := ((Below.refl _ _).alloc (Nat.le_refl _) _).trans (hb.mono (by simp))
    have RR := hid R
    clear hb R
    go_wp2_with fail
    have k2 := RR.out.put 0 (.int .i64 5)
    have k3 := k2.put 1 (.slice none 0 0)
    have h0 := k2.cell 0
    have h1 := k3.cell 1
    simp at h0 h1
    have hOn : Only (fun k => k = w.heap.size) w2 ((w2.setCell ⟨w.heap.size, 0, none⟩ (.int .i64 5)).setCell ⟨w.heap.size, 1, none⟩ (.slice none 0 0)) := ((Only.refl (fun k => k = w.heap.size) w2).put (b := w.heap.size) rfl 0 _).put (b := w.heap.size) rfl 1 _
    refine bodyPost_ret (v := .tuple #[.slice none 0 0, .agg #[.int .i64 5, .slice none 0 0]]) ?_ rfl ⟨rfl, HB.out.trans ⟨hOn.os, hOn.tape, hOn.output, hOn.size, fun k hk => hOn.block k (by have := HB.out.size; omega) (by omega)⟩⟩
    simp [results, Tryd.results32, go_sem, h0, h1]
/-- Bytes that grow beside the result's cells. -/
structure RMk (w : World) (L : List UInt8) (g cap : Nat) (W : World) : Prop where
  own : W.ownsRow (w.heap.size + 1) 5 1 (.slice (some ⟨g, 0, none⟩) L.length cap) L.length (L.map byteV)
  bel : Below w.heap.size w W
  blk : Blk W w.heap.size 32 #[.int .i64 0, .slice none 0 0]
theorem RMk.alloc {w W : World} {L : List UInt8} {g cap : Nat} (h : RMk w L g cap W) (o : Obj) : RMk w L g cap (W.alloc o) := ⟨h.own.alloc o, h.bel.alloc h.bel.size o, h.blk.alloc o⟩
theorem RMk.grown {w W W' : World} {L L' : List UInt8} {g cap g' cap' : Nat} (h : RMk w L g cap W) (hg : W.grownBy W' (Value.ownBlock (.slice (some ⟨g, 0, none⟩) L.length cap)))
    (ho : W'.ownsRow (w.heap.size + 1) 5 1 (.slice (some ⟨g', 0, none⟩) L'.length cap') L'.length (L'.map byteV)) : RMk w L' g' cap' W' :=
  ⟨ho, h.bel.grown hg h.bel.size (fun k hk => by have := (h.own.lt k hk).1; omega), (hg.block _ h.blk.lt (fun e => by have := (h.own.lt _ e.symm).1; omega)).trans h.blk⟩
theorem own_far1 {w w' : World} {S : Nat → Prop} {B size n : Nat} {t : TypeId} {v : Value} {xs : List Value} (h : w.ownsRow B t size v n xs) (ho : Only S w w') (hv : ∀ k, v.ownBlock = some k → ¬ S k) : w'.ownsRow B t size v n xs := by
  refine ⟨h.1, ?_⟩
  rcases h.2 with hn | ⟨g, cap, cur, hv', hb, hg, hr⟩
  · exact .inl hn
  · refine .inr ⟨g, cap, cur, hv', hb, ?_, hr⟩
    have hlt := (Array.getElem?_eq_some_iff.1 hg).1
    rw [ho.block g hlt (hv g (by rw [hv']; rfl))]
    exact hg
def RMadeRes (bs : List UInt8) (w : World) (e : Ending) (w' : World) : Prop :=
  ∃ g cap, e = .returned (.tuple #[.slice (some ⟨g, 0, none⟩) bs.length cap, .agg #[.int .i64 0, .slice none 0 0]]) ∧ w'.ownsRow w.heap.size 5 1 (.slice (some ⟨g, 0, none⟩) bs.length cap) bs.length (bs.map byteV) ∧ Below w.heap.size w w'
theorem own_more {w : World} {B B' size n : Nat} {t : TypeId} {v : Value} {xs : List Value} (h : w.ownsRow B t size v n xs) (hB : B' ≤ B) : w.ownsRow B' t size v n xs := by
  refine ⟨h.1, ?_⟩
  rcases h.2 with h | ⟨g, cap, cur, h1, h2, h3⟩
  · exact .inl h
  · exact .inr ⟨g, cap, cur, h1, by omega, h3⟩
set_option maxHeartbeats 800000 in
theorem rmade_fill (x : Value) (w : World) (hx : Byt w x []) : Calls Tryd.prog 32 #[.int .i64 0, x] w (RMadeRes [0] w) := by
  obtain ⟨A, c, rfl, hc⟩ := hx.form
  clear hx
  have hO : ((w.alloc (.cells #[.int .i64 0, .slice none 0 0] 32)).alloc (.cells #[.int .u8 0] 5)).ownsRow w.heap.size 5 1 (.slice (some ⟨w.heap.size + 1, 0, none⟩) 1 1) 1 (([0] : List UInt8).map byteV) := by
    have h := World.ownsRow_lit (base := w.heap.size) (e := 5) (size := 1) (w.alloc (.cells #[.int .i64 0, .slice none 0 0] 32)) #[.int .u8 0] 1 (by simp) (by unfold maxLen; omega) rfl
    simp only [World.size_alloc] at h
    exact h
  have O := hid hO
  clear hO
  go_enter Tryd.func32, Tryd.ntmps32
  go_wp2_with fail
  refine bodyPost_ret (v := .tuple #[.slice (some ⟨w.heap.size + 1, 0, none⟩) 1 1, .agg #[.int .i64 0, .slice none 0 0]]) (by simp [results, Tryd.results32, go_sem]) rfl ⟨_, _, rfl, O.out, ((Below.refl _ _).alloc (Nat.le_refl _) _).alloc (by simp) _⟩
set_option maxRecDepth 100000 in
set_option maxHeartbeats 1600000 in
theorem rmade_unit (k : Nat) (x : Value) (bs : List UInt8) (w : World) (hx : Byt w x bs) (hk1 : 1 ≤ k) (hk2 : k ≤ 255) (hl : bs.length ≤ 65536) :
    Calls Tryd.prog 32 #[.int .i64 k, x] w (RMadeRes (unitBytes k bs) w) := by
  obtain ⟨i0, hi0, hz0, hz1, hz2⟩ := info_parts info_u8
  have IP := hid (And.intro hi0 (And.intro hz0 (And.intro hz1 hz2)))
  clear hi0 hz0 hz1 hz2
  obtain ⟨A, c, rfl, hc⟩ := hx.form
  have X := hid hx
  clear hx
  have hk0 : ((k : Int) == 0) = false := by simp; omega
  have t1 : decide ((k : Int) < 0) = false := by simp
  have t2 : decide (255 < (k : Int)) = false := by simp; omega
  have t3 : decide (65536 < (bs.length : Int)) = false := by simp; omega
  have p4 : IntKind.u8.wrap (k : Int) = (k : Int) := by rw [wu8]; omega
  have q4 : (k : Int) = (((UInt8.ofNat k).toNat : Nat) : Int) := by simp; omega
  have Q4 := hid q4
  clear q4
  have ho1 : ((w.alloc (.cells #[.int .i64 0, .slice none 0 0] 32)).alloc (.cells #[.int .u8 k] 5)).ownsRow (w.heap.size + 1) 5 1 (.slice (some ⟨w.heap.size + 1, 0, none⟩) 1 1) 1 ([UInt8.ofNat k].map byteV) := by
    have h := World.ownsRow_lit (base := w.heap.size + 1) (e := 5) (size := 1) (w.alloc (.cells #[.int .i64 0, .slice none 0 0] 32)) #[.int .u8 k] 1 (by simp) (by unfold maxLen; omega) rfl
    simp only [World.size_alloc] at h
    rw [Q4.out] at h ⊢
    exact h
  have hb1 : Below w.heap.size w ((w.alloc (.cells #[.int .i64 0, .slice none 0 0] 32)).alloc (.cells #[.int .u8 k] 5)) := ((Below.refl _ _).alloc (Nat.le_refl _) _).alloc (by simp) _
  have hr1 : Blk ((w.alloc (.cells #[.int .i64 0, .slice none 0 0] 32)).alloc (.cells #[.int .u8 k] 5)) w.heap.size 32 #[.int .i64 0, .slice none 0 0] := (Blk.new _ _ _).alloc _
  have T0 : Hid (RMk w [UInt8.ofNat k] (w.heap.size + 1) 1 ((w.alloc (.cells #[.int .i64 0, .slice none 0 0] 32)).alloc (.cells #[.int .u8 k] 5))) := ⟨ho1, hb1, hr1⟩
  clear ho1 hb1 hr1
  go_enter Tryd.func32, Tryd.ntmps32
  go_wp2_with fail
  generalize (w.alloc (.cells #[.int .i64 0, .slice none 0 0] 32)).alloc (.cells #[.int .u8 k] 5) = W1 at *
  have h4 : unitHd k bs = ([UInt8.ofNat k] ++ [UInt8.ofNat (bs.length / 65536), UInt8.ofNat (bs.length / 256), UInt8.ofNat bs.length]) ++ bs := rfl
  have hlen : (unitHd k bs).length = bs.length + 4 := by rw [h4]; simp
  have Q5 := hid (And.intro h4 hlen)
  clear h4 hlen
  refine (number3 bs.length _ (by omega)).mono ?_
  rintro e w2 ⟨rfl, rfl⟩
  generalize UInt8.ofNat (bs.length / 65536) = c1 at *
  generalize UInt8.ofNat (bs.length / 256) = c2 at *
  generalize UInt8.ofNat bs.length = c3 at *
  generalize hck : UInt8.ofNat k = ck at *
  have HCK := hid hck
  clear hck
  go_wp2_with (first
    | (at_builtin
       (refine wpList_append_form _ rfl (.tmp 34) (.tmp 37) _ rfl (w.heap.size + 1) 5 i0 (.int .u8 0) 1 1 Tryd.underlying23 IP.out.1 IP.out.2.1 IP.out.2.2.1 IP.out.2.2.2 rfl (by omega) (.slice (some ⟨w.heap.size + 1, 0, none⟩) 1 1) 1 ([ck].map byteV) rfl (by exact (T0.out.alloc _).own) (.slice (some ⟨W1.heap.size, 0, none⟩) 3 3) 3 ([c1, c2, c3].map byteV) rfl (by exact from_block (Blk.new W1 5 #[.int .u8 c1.toNat, .int .u8 c2.toNat, .int .u8 c3.toNat]) rfl) (one_bytes _) (.inl (by simp [Value.ownBlock])) (by unfold maxLen; omega) (by omega) (by have := T0.out.own.lt _ rfl; simp; omega) ([ck] ++ [c1, c2, c3]).length (([ck] ++ [c1, c2, c3]).map byteV) rfl rfl ?_)
       intro g cap w3 hown hgrow hat hlt
       have T1 := hid ((T0.out.alloc _).grown hgrow hown)
       clear hown hgrow hat hlt)
    | (at_builtin
       (refine wpList_append_form _ rfl (.tmp 39) (.tmp 40) _ rfl (w.heap.size + 1) 5 i0 (.int .u8 0) 1 1 Tryd.underlying23 IP.out.1 IP.out.2.1 IP.out.2.2.1 IP.out.2.2.2 rfl (by omega) (.slice (some ⟨g, 0, none⟩) ([ck] ++ [c1, c2, c3]).length cap) ([ck] ++ [c1, c2, c3]).length (([ck] ++ [c1, c2, c3]).map byteV) rfl (by exact T1.out.own) (.slice A bs.length c) bs.length (bs.map byteV) rfl (by exact (X.out.below T1.out.bel).from_) (one_bytes bs) (.inl (by simp [Value.ownBlock])) (by simp; unfold maxLen; omega) (by simp; omega) (by have := T1.out.own.lt _ rfl; omega) (unitHd k bs).length ((unitHd k bs).map byteV) (by rw [Q5.out.2]; simp; omega) (by rw [Q5.out.1]; simp) ?_)
       intro g2 cap2 w4 hown hgrow hat hlt
       have T2 := hid (T1.out.grown hgrow hown)
       clear hown hgrow hat hlt))
  refine (rsum_any _ (unitHd k bs) _ (by exact Byt.of_own T2.out.own rfl) (by rw [Q5.out.2]; omega)).mono ?_
  rintro e w5 ⟨rfl, rfl⟩
  have hq : unitBytes k bs = unitHd k bs ++ [UInt8.ofNat (sumOf (unitHd k bs) / 16777216), UInt8.ofNat (sumOf (unitHd k bs) / 65536), UInt8.ofNat (sumOf (unitHd k bs) / 256), UInt8.ofNat (sumOf (unitHd k bs))] := by
    unfold unitBytes
    rw [if_neg (by omega)]
    rfl
  have hq2 : (unitBytes k bs).length = bs.length + 8 := by rw [hq, List.length_append, Q5.out.2]; rfl
  have hS := sumOf_lt (unitHd k bs)
  have HQ := hid (And.intro hq hq2)
  clear hq hq2
  generalize sumOf (unitHd k bs) = S at *
  go_wp2_with fail
  refine (number4 S _ (by omega)).mono ?_
  rintro e w6 ⟨rfl, rfl⟩
  generalize UInt8.ofNat (S / 16777216) = s1 at *
  generalize UInt8.ofNat (S / 65536) = s2 at *
  generalize UInt8.ofNat (S / 256) = s3 at *
  generalize UInt8.ofNat S = s4 at *
  go_wp2_with (first
    | (at_builtin
       (refine wpList_append_form _ rfl (.tmp 42) (.tmp 46) _ rfl (w.heap.size + 1) 5 i0 (.int .u8 0) 1 1 Tryd.underlying23 IP.out.1 IP.out.2.1 IP.out.2.2.1 IP.out.2.2.2 rfl (by omega) (.slice (some ⟨g2, 0, none⟩) (unitHd k bs).length cap2) (unitHd k bs).length ((unitHd k bs).map byteV) rfl (by exact (T2.out.alloc _).own) (.slice (some ⟨w4.heap.size, 0, none⟩) 4 4) 4 ([s1, s2, s3, s4].map byteV) rfl (by exact from_block (Blk.new w4 5 #[.int .u8 s1.toNat, .int .u8 s2.toNat, .int .u8 s3.toNat, .int .u8 s4.toNat]) rfl) (one_bytes _) (.inl (by simp [Value.ownBlock])) (by rw [Q5.out.2]; unfold maxLen; omega) (by rw [Q5.out.2]; omega) (by have := T2.out.own.lt _ rfl; simp; omega) (unitBytes k bs).length ((unitBytes k bs).map byteV) (by rw [HQ.out.2, Q5.out.2]) (by rw [HQ.out.1, List.map_append]) ?_)
       intro g3 cap3 w7 hown hgrow hat hlt
       have T3 := hid ((T2.out.alloc _).grown hgrow hown)
       have r0 := T3.out.blk.cell 0
       have r1 := T3.out.blk.cell 1
       have rf0 := T3.out.blk.frozen 0
       have rf1 := T3.out.blk.frozen 1
       simp at r0 r1
       clear hown hgrow hat hlt))
  have k2 := T3.out.blk.put 0 (.int .i64 0)
  have k3 := k2.put 1 (.slice none 0 0)
  have h0 := k2.cell 0
  have h1 := k3.cell 1
  simp at h0 h1
  have hOn : Only (fun k => k = w.heap.size) w7 ((w7.setCell ⟨w.heap.size, 0, none⟩ (.int .i64 0)).setCell ⟨w.heap.size, 1, none⟩ (.slice none 0 0)) := ((Only.refl (fun k => k = w.heap.size) w7).put (b := w.heap.size) rfl 0 _).put (b := w.heap.size) rfl 1 _
  have hown := own_far1 T3.out.own hOn (fun k hk e => by have := (T3.out.own.lt k hk).1; omega)
  refine bodyPost_ret (v := .tuple #[.slice (some ⟨g3, 0, none⟩) (unitBytes k bs).length cap3, .agg #[.int .i64 0, .slice none 0 0]]) ?_ rfl ⟨_, _, rfl, own_more hown (by omega), T3.out.bel.trans ⟨hOn.os, hOn.tape, hOn.output, hOn.size, fun k hk => hOn.block k (by have := T3.out.bel.size; omega) (by omega)⟩⟩
  simp [results, Tryd.results32, go_sem, h0, h1]
end Go.Proofs.YtabklmkdneoaaaaDoor
