/- unit.Make: the walk. -/
import Derived.Test.YtabklmkdneoaaaaDoorUSum
namespace Go.Proofs.YtabklmkdneoaaaaDoor
open Go.RowKit

theorem byte_div (n d : Nat) : IntKind.u8.wrap ((n : Int) / (d : Int)) = (((UInt8.ofNat (n / d)).toNat : Nat) : Int) := by
  rw [show ((n : Int) / (d : Int)) = ((n / d : Nat) : Int) by simp, wu8]
  simp
theorem byte_self (n : Nat) : IntKind.u8.wrap (n : Int) = (((UInt8.ofNat n).toNat : Nat) : Int) := by rw [wu8]; simp
def MadeRes (bs : List UInt8) (w : World) (e : Ending) (w' : World) : Prop :=
  ∃ g cap, e = .returned (.tuple #[.slice (some ⟨g, 0, none⟩) bs.length cap, .nilIface]) ∧ w'.ownsRow w.heap.size 5 1 (.slice (some ⟨g, 0, none⟩) bs.length cap) bs.length (bs.map byteV) ∧ Below w.heap.size w w'
theorem make_no (k : Int) (x : Value) (bs : List UInt8) (w : World) (hx : Byt w x bs) (hn : makeNo k bs.length ≠ 0) :
    Calls Tryd.prog 22 #[.int .i64 k, x] w fun e w' => e = .returned (.tuple #[.slice none 0 0, .iface 29 (.int .i64 (makeNo k bs.length))]) ∧ w = w' := by
  obtain ⟨A, c, rfl, hc⟩ := hx.form
  clear hx
  unfold makeNo at *
  by_cases h1 : k < 0
  · rw [if_pos (.inl h1)]
    clear hn
    go_enter Tryd.func22, Tryd.ntmps22
    go_wp2_with fail
    go_ret2
    exact ⟨rfl, rfl⟩
  · by_cases h2 : 255 < k
    · rw [if_pos (.inr (.inl h2))]
      clear hn
      go_enter Tryd.func22, Tryd.ntmps22
      go_wp2_with fail
      go_ret2
      exact ⟨rfl, rfl⟩
    · by_cases h3 : k = 0 ∧ 0 < bs.length
      · rw [if_pos (.inr (.inr h3))]
        clear hn
        obtain ⟨rfl, h4⟩ := h3
        go_enter Tryd.func22, Tryd.ntmps22
        go_wp2_with fail
        go_ret2
        exact ⟨rfl, rfl⟩
      · rw [if_neg (by omega)] at hn ⊢
        by_cases h4 : 65536 < bs.length
        · rw [if_pos h4]
          have h5 : k ≠ 0 := by omega
          have h6 : (k == 0) = false := by simpa using h5
          have h7 : decide (65536 < (bs.length : Int)) = true := by simp; omega
          clear hn h3
          go_enter Tryd.func22, Tryd.ntmps22
          go_wp2_with fail
          go_ret2
          exact ⟨rfl, rfl⟩
        · rw [if_neg h4] at hn
          exact absurd rfl hn
theorem made_fill (x : Value) (w : World) (hx : Byt w x []) : Calls Tryd.prog 22 #[.int .i64 0, x] w (MadeRes [0] w) := by
  obtain ⟨A, c, rfl, hc⟩ := hx.form
  clear hx
  go_enter Tryd.func22, Tryd.ntmps22
  go_wp2_with fail
  go_ret2
  exact ⟨w.heap.size, 1, rfl, World.ownsRow_lit w #[.int .u8 0] 1 (Nat.le_refl _) (by unfold maxLen; omega) rfl, (Below.refl _ _).alloc (Nat.le_refl _) _⟩
set_option maxRecDepth 100000 in
set_option maxHeartbeats 1600000 in
theorem made_unit (k : Nat) (x : Value) (bs : List UInt8) (w : World) (hx : Byt w x bs) (hk1 : 1 ≤ k) (hk2 : k ≤ 255) (hl : bs.length ≤ 65536) :
    Calls Tryd.prog 22 #[.int .i64 k, x] w (MadeRes (unitBytes k bs) w) := by
  obtain ⟨i0, hi0, hz0, hz1, hz2⟩ := info_parts info_u8
  have IP := hid (And.intro hi0 (And.intro hz0 (And.intro hz1 hz2)))
  clear hi0 hz0 hz1 hz2
  obtain ⟨A, c, rfl, hc⟩ := hx.form
  have X := hid hx
  clear hx
  have hk0 : ((k : Int) == 0) = false := by simp; omega
  have t1 : decide ((k : Int) < 0) = false := by simp
  have t2 : decide (255 < (k : Int)) = false := by simp; omega
  have t3 : decide (65536 < (bs.length : Int)) = false := by simp; omega
  have p1 : IntKind.u8.wrap ((bs.length : Int) / 65536) = (((UInt8.ofNat (bs.length / 65536)).toNat : Nat) : Int) := byte_div bs.length 65536
  have p2 : IntKind.u8.wrap ((bs.length : Int) / 256) = (((UInt8.ofNat (bs.length / 256)).toNat : Nat) : Int) := byte_div bs.length 256
  have p3 := byte_self bs.length
  have p4 : IntKind.u8.wrap (k : Int) = (k : Int) := by rw [wu8]; omega
  have q1 : (bs.length : Int) / 65536 = (((UInt8.ofNat (bs.length / 65536)).toNat : Nat) : Int) := by simp; omega
  have q4 : (k : Int) = (((UInt8.ofNat k).toNat : Nat) : Int) := by simp; omega
  have h4 : unitHd k bs = [UInt8.ofNat k, UInt8.ofNat (bs.length / 65536), UInt8.ofNat (bs.length / 256), UInt8.ofNat bs.length] ++ bs := rfl
  have hlen : (unitHd k bs).length = bs.length + 4 := by rw [h4]; simp
  have Q4 := hid (And.intro q4 (And.intro h4 hlen))
  clear q4 h4 hlen
  generalize UInt8.ofNat (bs.length / 65536) = c1 at *
  generalize UInt8.ofNat (bs.length / 256) = c2 at *
  generalize UInt8.ofNat bs.length = c3 at *
  go_enter Tryd.func22, Tryd.ntmps22
  go_wp2_with (first
    | (at_builtin
       (refine wpList_append_form _ rfl (.tmp 47) (.tmp 48) _ rfl w.heap.size 5 i0 (.int .u8 0) 1 1 Tryd.underlying23 IP.out.1 IP.out.2.1 IP.out.2.2.1 IP.out.2.2.2 rfl (by omega) (.slice (some ⟨w.heap.size, 0, none⟩) 4 4) 4 [.int .u8 k, .int .u8 c1.toNat, .int .u8 c2.toNat, .int .u8 c3.toNat] rfl (by exact World.ownsRow_lit (size := 1) (base := w.heap.size) (e := 5) w #[.int .u8 k, .int .u8 c1.toNat, .int .u8 c2.toNat, .int .u8 c3.toNat] 4 (Nat.le_refl _) (by unfold maxLen; omega) rfl) (.slice A bs.length c) bs.length (bs.map byteV) rfl (by exact (X.out.alloc _).from_) (one_bytes bs) (.inl (by simp [Value.ownBlock])) (by unfold maxLen; omega) (by omega) (by simp) (unitHd k bs).length ((unitHd k bs).map byteV) (by rw [Q4.out.2.2]; omega) (by rw [Q4.out.2.1, Q4.out.1]; rfl) ?_)
       intro g cap w2 hown hgrow hat hlt
       have hbel : Below w.heap.size w w2 := ((Below.refl _ _).alloc (Nat.le_refl _) _).grown hgrow (by simp) (fun k hk => by simp [Value.ownBlock] at hk; omega)
       have H := hid (And.intro hown hbel)
       clear hown hgrow hat hlt hbel p1 p2 p3 q1)
    | (go_at_call 34
       (refine (usum_any _ (unitHd k bs) _ (by exact Byt.of_own H.out.1 rfl) (by rw [Q4.out.2.2]; omega)).mono ?_)
       rintro e w3 ⟨rfl, rfl⟩
       have r1 : IntKind.u8.wrap (((sumOf (unitHd k bs) : Nat) : Int) / 16777216) = (((UInt8.ofNat (sumOf (unitHd k bs) / 16777216)).toNat : Nat) : Int) := byte_div (sumOf (unitHd k bs)) 16777216
       have r2 : IntKind.u8.wrap (((sumOf (unitHd k bs) : Nat) : Int) / 65536) = (((UInt8.ofNat (sumOf (unitHd k bs) / 65536)).toNat : Nat) : Int) := byte_div (sumOf (unitHd k bs)) 65536
       have r3 : IntKind.u8.wrap (((sumOf (unitHd k bs) : Nat) : Int) / 256) = (((UInt8.ofNat (sumOf (unitHd k bs) / 256)).toNat : Nat) : Int) := byte_div (sumOf (unitHd k bs)) 256
       have r4 := byte_self (sumOf (unitHd k bs))
       have hq : unitBytes k bs = unitHd k bs ++ [UInt8.ofNat (sumOf (unitHd k bs) / 16777216), UInt8.ofNat (sumOf (unitHd k bs) / 65536), UInt8.ofNat (sumOf (unitHd k bs) / 256), UInt8.ofNat (sumOf (unitHd k bs))] := by
         unfold unitBytes
         rw [if_neg (by omega)]
         rfl
       have hq2 : (unitBytes k bs).length = bs.length + 8 := by rw [hq, List.length_append, Q4.out.2.2]; rfl
       have HQ := hid (And.intro hq hq2)
       clear hq hq2
       generalize UInt8.ofNat (sumOf (unitHd k bs) / 16777216) = s1 at *
       generalize UInt8.ofNat (sumOf (unitHd k bs) / 65536) = s2 at *
       generalize UInt8.ofNat (sumOf (unitHd k bs) / 256) = s3 at *
       generalize UInt8.ofNat (sumOf (unitHd k bs)) = s4 at *
       generalize sumOf (unitHd k bs) = S at *)
    | (at_builtin
       (refine wpList_append_form _ rfl (.tmp 52) (.tmp 64) _ rfl w.heap.size 5 i0 (.int .u8 0) 1 1 Tryd.underlying23 IP.out.1 IP.out.2.1 IP.out.2.2.1 IP.out.2.2.2 rfl (by omega) (.slice (some ⟨g, 0, none⟩) (unitHd k bs).length cap) (unitHd k bs).length ((unitHd k bs).map byteV) rfl (by exact H.out.1.alloc _) (.slice (some ⟨w2.heap.size, 0, none⟩) 4 4) 4 ([s1, s2, s3, s4].map byteV) rfl (by exact from_block (Blk.new w2 5 #[.int .u8 s1.toNat, .int .u8 s2.toNat, .int .u8 s3.toNat, .int .u8 s4.toNat]) rfl) (one_bytes _) (.inl (by simp [Value.ownBlock])) (by rw [Q4.out.2.2]; unfold maxLen; omega) (by rw [Q4.out.2.2]; omega) (by have := H.out.2.size; simp; omega) (unitBytes k bs).length ((unitBytes k bs).map byteV) (by rw [HQ.out.2, Q4.out.2.2]) (by rw [HQ.out.1, List.map_append]) ?_)
       intro g2 cap2 w4 hown hgrow hat hlt
       have hbel : Below w.heap.size w w4 := (H.out.2.alloc H.out.2.size _).grown hgrow (by have := H.out.2.size; simp; omega) (fun k hk => by have := (H.out.1.lt k hk).1; omega)
       have K := hid (And.intro hown hbel)
       clear hown hgrow hat hlt hbel r1 r2 r3 r4))
  go_ret2
  exact ⟨g2, cap2, rfl, K.out.1, K.out.2⟩
end Go.Proofs.YtabklmkdneoaaaaDoor
