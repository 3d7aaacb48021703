/- Chapter 26: the document's data and Pack; get. -/
import Derived.Test.YtabklmkdneoaaaaDoorGA
/- kinref26.data: the walk. -/
namespace Go.Proofs.YtabklmkdneoaaaaDoor
open Go.RowKit

theorem own_of_blk {W : World} {g B : Nat} {xs : List UInt8} (h : Blk W g 5 (xs.map byteV).toArray) (hB : B ≤ g) (hx : xs.length ≤ 1000) {n : Nat} (hn : n = xs.length) : W.ownsRow B 5 1 (.slice (some ⟨g, 0, none⟩) n n) n (xs.map byteV) := by
  subst hn
  exact ⟨by simp, .inr ⟨g, xs.length, _, rfl, hB, h, Nat.le_refl _, by unfold maxLen; omega, by simp, by simpa using List.take_of_length_le (l := xs.map byteV) (by simp)⟩⟩
theorem from_blk_u8 {W : World} {B : Nat} {xs : List UInt8} (h : Blk W B 5 (xs.map byteV).toArray) {n : Nat} (hn : n = xs.length) : From W 1 (.slice (some ⟨B, 0, none⟩) n n) n (xs.map byteV) := by
  subst hn
  have := from_block h (n := xs.length) (by simp)
  simpa using this
theorem number_any (v : Nat) (w : World) (hv : v < 4294967296) : Calls Tryd.prog 75 #[.int .i64 v, .int .i64 4] w fun e w' => e = .returned (.slice (some ⟨w.heap.size, 0, none⟩) 4 4) ∧ Blk w' w.heap.size 5 ((quad v).map byteV).toArray ∧ Below w.heap.size w w' ∧ w'.heap.size = w.heap.size + 1 := by
  refine (number4 v w (by omega)).mono ?_
  rintro e w' ⟨rfl, rfl⟩
  exact ⟨rfl, Blk.new _ _ _, (Below.refl _ _).alloc (Nat.le_refl _) _, by simp⟩
theorem rrec_cells {W : World} {b : Nat} {k : Int} {s n l c : Nat} (h : Blk W b 71 (recC k s n l c)) : W.cell? ⟨b, 0, none⟩ = some (.int .i64 k) ∧ W.cell? ⟨b, 1, none⟩ = some (.int .i64 s) ∧ W.cell? ⟨b, 2, none⟩ = some (.int .i64 n) ∧ W.cell? ⟨b, 3, none⟩ = some (.int .i64 l) ∧ W.cell? ⟨b, 4, none⟩ = some (.int .i64 c) := by
  refine ⟨?_, ?_, ?_, ?_, ?_⟩ <;> (rw [h.cell]; rfl)
/-- A record and its two numbers, laid. -/
structure R26 (w : World) (k : Int) (s n l c : Nat) (W : World) : Prop where
  r : Blk W w.heap.size 71 (recC k s n l c)
  s : Blk W (w.heap.size + 1) 5 ((quad s).map byteV).toArray
  l : Blk W (w.heap.size + 2) 5 ((quad l).map byteV).toArray
  bel : Below w.heap.size w W
  size : W.heap.size = w.heap.size + 3
theorem quad_len (v : Nat) : 4 = (quad v).length := rfl
set_option maxRecDepth 100000 in
set_option maxHeartbeats 2000000 in
theorem rdata_fail (s n l c : Nat) (w : World) (hs : s < 4294967296) (hl : l < 4294967296) : Calls Tryd.prog 92 #[recV 50 s n l c] w (DataRes (recData 50 s n l c) w) := by
  obtain ⟨i0, hi0, hz0, hz1, hz2⟩ := info_parts info_u8
  have IP := hid (And.intro hi0 (And.intro hz0 (And.intro hz1 hz2)))
  have HS := hid (And.intro hs hl)
  have p4 := byte_self c
  have Q := hid (show recData 50 s n l c = [UInt8.ofNat c] from rfl)
  generalize recData 50 s n l c = rd at *
  generalize UInt8.ofNat c = c4 at *
  unfold recV
  clear hi0 hz0 hz1 hz2 hs hl
  have B0 := hid (And.intro (Blk.new w 71 (recC 50 s n l c)) ((Below.refl w.heap.size w).alloc (Nat.le_refl _) (.cells (recC 50 s n l c) 71)))
  unfold recC at B0
  go_enter Tryd.func92, Tryd.ntmps92
  go_wp2_with fail
  refine (number_any s _ HS.out.1).mono ?_
  rintro e w1 ⟨rfl, h1, h2, h3⟩
  simp only [World.size_alloc] at h1 h2 h3 ⊢
  have S1 := hid (And.intro h1 (And.intro h2 h3))
  obtain ⟨z0, z1, z2, z3, z4⟩ := rrec_cells (B0.out.1.below h2 (by omega))
  clear h1 h2
  go_wp2_with fail
  refine (number_any l _ HS.out.2).mono ?_
  rintro e w2 ⟨rfl, h4, h5, h6⟩
  rw [h3] at h4 h5 h6 ⊢
  have T2 := hid (show R26 w 50 s n l c w2 from ⟨(B0.out.1.below S1.out.2.1 (by omega)).below h5 (by omega), S1.out.1.below h5 (by omega), h4, B0.out.2.trans ((S1.out.2.1.mono (by omega)).trans (h5.mono (by omega))), h6⟩)
  clear h3 h4 h5 h6 z0 z1 z2 z3 z4
  obtain ⟨d0, d1, d2, d3, d4⟩ := rrec_cells T2.out.r
  go_wp2_with fail
  go_ret
  rw [Q.out]
  refine ⟨_, _, rfl, ?_, T2.out.bel.alloc T2.out.bel.size _, by have := T2.out.bel.size; simp; omega⟩
  exact own_of_blk (xs := [c4]) (Blk.new _ _ _) T2.out.bel.size (by simp) rfl
set_option maxRecDepth 100000 in
set_option maxHeartbeats 2000000 in
theorem rdata_start (s n l c : Nat) (w : World) (hs : s < 4294967296) (hl : l < 4294967296) : Calls Tryd.prog 92 #[recV 48 s n l c] w (DataRes (recData 48 s n l c) w) := by
  obtain ⟨i0, hi0, hz0, hz1, hz2⟩ := info_parts info_u8
  have IP := hid (And.intro hi0 (And.intro hz0 (And.intro hz1 hz2)))
  have HS := hid (And.intro hs hl)
  have p4 := byte_self n
  have Q := hid (show recData 48 s n l c = quad s ++ [UInt8.ofNat n] from rfl)
  generalize recData 48 s n l c = rd at *
  generalize UInt8.ofNat n = c4 at *
  unfold recV
  clear hi0 hz0 hz1 hz2 hs hl
  have B0 := hid (And.intro (Blk.new w 71 (recC 48 s n l c)) ((Below.refl w.heap.size w).alloc (Nat.le_refl _) (.cells (recC 48 s n l c) 71)))
  unfold recC at B0
  go_enter Tryd.func92, Tryd.ntmps92
  go_wp2_with fail
  refine (number_any s _ HS.out.1).mono ?_
  rintro e w1 ⟨rfl, h1, h2, h3⟩
  simp only [World.size_alloc] at h1 h2 h3 ⊢
  have S1 := hid (And.intro h1 (And.intro h2 h3))
  obtain ⟨z0, z1, z2, z3, z4⟩ := rrec_cells (B0.out.1.below h2 (by omega))
  clear h1 h2
  go_wp2_with fail
  refine (number_any l _ HS.out.2).mono ?_
  rintro e w2 ⟨rfl, h4, h5, h6⟩
  rw [h3] at h4 h5 h6 ⊢
  have T2 := hid (show R26 w 48 s n l c w2 from ⟨(B0.out.1.below S1.out.2.1 (by omega)).below h5 (by omega), S1.out.1.below h5 (by omega), h4, B0.out.2.trans ((S1.out.2.1.mono (by omega)).trans (h5.mono (by omega))), h6⟩)
  clear h3 h4 h5 h6 z0 z1 z2 z3 z4
  obtain ⟨d0, d1, d2, d3, d4⟩ := rrec_cells T2.out.r
  go_wp2_with (at_builtin; refine wpList_append_form _ rfl (.tmp 15) (.tmp 19) _ rfl w.heap.size 5 i0 (.int .u8 0) 1 1 Tryd.underlying23 IP.out.1 IP.out.2.1 IP.out.2.2.1 IP.out.2.2.2 rfl (by omega) (.slice (some ⟨w.heap.size + 1, 0, none⟩) 4 4) 4 ((quad s).map byteV) rfl (by exact own_of_blk (T2.out.s.alloc _) (by omega) (by simp [quad]) (quad_len s)) (.slice (some ⟨w2.heap.size, 0, none⟩) 1 1) 1 [byteV c4] rfl (by exact from_blk_u8 (xs := [c4]) (Blk.new _ _ _) rfl) (one_bytes [c4]) (.inr (by omega)) (by unfold maxLen; omega) (by omega) (by have := T2.out.bel.size; simp; omega) 5 (rd.map byteV) rfl (by rw [Q.out, List.map_append]; rfl) ?_; intro g cap w3 hown hgrow hat hlt)
  have hb : Below w.heap.size w w3 := (T2.out.bel.alloc T2.out.bel.size _).grown hgrow (by have := T2.out.bel.size; simp; omega) (fun k hk => by simp [Value.ownBlock] at hk; omega)
  have hrl : rd.length = 5 := by rw [Q.out]; rfl
  go_ret
  unfold DataRes
  rw [hrl]
  refine ⟨_, _, rfl, ?_, hb, hb.size⟩
  rw [hrl]
  exact hown
set_option maxRecDepth 100000 in
set_option maxHeartbeats 2000000 in
theorem rdata_end (s n l c : Nat) (w : World) (hs : s < 4294967296) (hl : l < 4294967296) : Calls Tryd.prog 92 #[recV 51 s n l c] w (DataRes (recData 51 s n l c) w) := by
  obtain ⟨i0, hi0, hz0, hz1, hz2⟩ := info_parts info_u8
  have IP := hid (And.intro hi0 (And.intro hz0 (And.intro hz1 hz2)))
  have HS := hid (And.intro hs hl)
  have Q := hid (show recData 51 s n l c = quad l ++ quad s from rfl)
  generalize recData 51 s n l c = rd at *
  unfold recV
  clear hi0 hz0 hz1 hz2 hs hl
  have B0 := hid (And.intro (Blk.new w 71 (recC 51 s n l c)) ((Below.refl w.heap.size w).alloc (Nat.le_refl _) (.cells (recC 51 s n l c) 71)))
  unfold recC at B0
  go_enter Tryd.func92, Tryd.ntmps92
  go_wp2_with fail
  refine (number_any s _ HS.out.1).mono ?_
  rintro e w1 ⟨rfl, h1, h2, h3⟩
  simp only [World.size_alloc] at h1 h2 h3 ⊢
  have S1 := hid (And.intro h1 (And.intro h2 h3))
  obtain ⟨z0, z1, z2, z3, z4⟩ := rrec_cells (B0.out.1.below h2 (by omega))
  clear h1 h2
  go_wp2_with fail
  refine (number_any l _ HS.out.2).mono ?_
  rintro e w2 ⟨rfl, h4, h5, h6⟩
  rw [h3] at h4 h5 h6 ⊢
  have T2 := hid (show R26 w 51 s n l c w2 from ⟨(B0.out.1.below S1.out.2.1 (by omega)).below h5 (by omega), S1.out.1.below h5 (by omega), h4, B0.out.2.trans ((S1.out.2.1.mono (by omega)).trans (h5.mono (by omega))), h6⟩)
  clear h3 h4 h5 h6 z0 z1 z2 z3 z4
  obtain ⟨d0, d1, d2, d3, d4⟩ := rrec_cells T2.out.r
  go_wp2_with (at_builtin; refine wpList_append_form _ rfl (.tmp 37) (.tmp 38) _ rfl w.heap.size 5 i0 (.int .u8 0) 1 1 Tryd.underlying23 IP.out.1 IP.out.2.1 IP.out.2.2.1 IP.out.2.2.2 rfl (by omega) (.slice (some ⟨w.heap.size + 2, 0, none⟩) 4 4) 4 ((quad l).map byteV) rfl (by exact own_of_blk T2.out.l (by omega) (by simp [quad]) (quad_len l)) (.slice (some ⟨w.heap.size + 1, 0, none⟩) 4 4) 4 ((quad s).map byteV) rfl (by exact from_blk_u8 T2.out.s (quad_len s)) (one_bytes (quad s)) (.inr (by omega)) (by unfold maxLen; omega) (by omega) (by exact T2.out.bel.size) 8 (rd.map byteV) rfl (by rw [Q.out, List.map_append]) ?_; intro g cap w3 hown hgrow hat hlt)
  have hb : Below w.heap.size w w3 := T2.out.bel.grown hgrow T2.out.bel.size (fun k hk => by simp [Value.ownBlock] at hk; omega)
  have hrl : rd.length = 8 := by rw [Q.out]; rfl
  go_ret
  unfold DataRes
  rw [hrl]
  refine ⟨_, _, rfl, ?_, hb, hb.size⟩
  rw [hrl]
  exact hown
set_option maxRecDepth 100000 in
set_option maxHeartbeats 2000000 in
theorem rdata_done (s n l c : Nat) (w : World) (hs : s < 4294967296) (hl : l < 4294967296) : Calls Tryd.prog 92 #[recV 49 s n l c] w (DataRes (recData 49 s n l c) w) := by
  obtain ⟨i0, hi0, hz0, hz1, hz2⟩ := info_parts info_u8
  have IP := hid (And.intro hi0 (And.intro hz0 (And.intro hz1 hz2)))
  have HS := hid (And.intro hs hl)
  have p4 := byte_self n
  have Q := hid (show recData 49 s n l c = ([UInt8.ofNat n] ++ quad l) ++ quad s from rfl)
  generalize recData 49 s n l c = rd at *
  generalize UInt8.ofNat n = c4 at *
  unfold recV
  clear hi0 hz0 hz1 hz2 hs hl
  have B0 := hid (And.intro (Blk.new w 71 (recC 49 s n l c)) ((Below.refl w.heap.size w).alloc (Nat.le_refl _) (.cells (recC 49 s n l c) 71)))
  unfold recC at B0
  go_enter Tryd.func92, Tryd.ntmps92
  go_wp2_with fail
  refine (number_any s _ HS.out.1).mono ?_
  rintro e w1 ⟨rfl, h1, h2, h3⟩
  simp only [World.size_alloc] at h1 h2 h3 ⊢
  have S1 := hid (And.intro h1 (And.intro h2 h3))
  obtain ⟨z0, z1, z2, z3, z4⟩ := rrec_cells (B0.out.1.below h2 (by omega))
  clear h1 h2
  go_wp2_with fail
  refine (number_any l _ HS.out.2).mono ?_
  rintro e w2 ⟨rfl, h4, h5, h6⟩
  rw [h3] at h4 h5 h6 ⊢
  have T2 := hid (show R26 w 49 s n l c w2 from ⟨(B0.out.1.below S1.out.2.1 (by omega)).below h5 (by omega), S1.out.1.below h5 (by omega), h4, B0.out.2.trans ((S1.out.2.1.mono (by omega)).trans (h5.mono (by omega))), h6⟩)
  clear h3 h4 h5 h6 z0 z1 z2 z3 z4
  obtain ⟨d0, d1, d2, d3, d4⟩ := rrec_cells T2.out.r
  go_wp2_with (first
    | (at_builtin
       refine wpList_append_form _ rfl (.tmp 28) (.tmp 29) _ rfl w.heap.size 5 i0 (.int .u8 0) 1 1 Tryd.underlying23 IP.out.1 IP.out.2.1 IP.out.2.2.1 IP.out.2.2.2 rfl (by omega) (.slice (some ⟨g, 0, none⟩) 5 cap) 5 (([c4] ++ quad l).map byteV) rfl (by exact O3.out.1) (.slice (some ⟨w.heap.size + 1, 0, none⟩) 4 4) 4 ((quad s).map byteV) rfl (by exact from_blk_u8 O3.out.2.1 (quad_len s)) (one_bytes (quad s)) (.inr (by omega)) (by unfold maxLen; omega) (by omega) (by exact O3.out.2.2.size) 9 (rd.map byteV) rfl (by rw [Q.out]; simp) ?_
       intro g4 cap4 w4 hown hgrow hat hlt
       have O4 := hid (And.intro hown (O3.out.2.2.grown hgrow O3.out.2.2.size (fun k hk => (O3.out.1.lt k hk).1)))
       clear hown hgrow hat hlt)
    | (at_builtin
       refine wpList_append_form _ rfl (.tmp 26) (.tmp 27) _ rfl w.heap.size 5 i0 (.int .u8 0) 1 1 Tryd.underlying23 IP.out.1 IP.out.2.1 IP.out.2.2.1 IP.out.2.2.2 rfl (by omega) (.slice (some ⟨w2.heap.size, 0, none⟩) 1 1) 1 [byteV c4] rfl (by exact own_of_blk (xs := [c4]) (Blk.new _ _ _) T2.out.bel.size (by simp) rfl) (.slice (some ⟨w.heap.size + 2, 0, none⟩) 4 4) 4 ((quad l).map byteV) rfl (by exact from_blk_u8 (T2.out.l.alloc _) (quad_len l)) (one_bytes (quad l)) (.inr (by omega)) (by unfold maxLen; omega) (by omega) (by have := T2.out.bel.size; simp; omega) 5 (([c4] ++ quad l).map byteV) rfl (by rw [List.map_append]; rfl) ?_
       intro g cap w3 hown hgrow hat hlt
       have hs3 := (T2.out.s.alloc (.cells #[.int .u8 c4.toNat] 5)).same (hgrow.block (w.heap.size + 1) (T2.out.s.alloc _).lt (by simp [Value.ownBlock, T2.out.size]))
       have O3 := hid (And.intro hown (And.intro hs3 ((T2.out.bel.alloc T2.out.bel.size (.cells #[.int .u8 c4.toNat] 5)).grown hgrow (by have := T2.out.bel.size; simp; omega) (fun k hk => by simp [Value.ownBlock] at hk; have := T2.out.bel.size; omega))))
       clear hown hgrow hat hlt hs3))
  have hb := O4.out.2
  have hrl : rd.length = 9 := by rw [Q.out]; rfl
  go_ret
  unfold DataRes
  rw [hrl]
  refine ⟨_, _, rfl, ?_, hb, hb.size⟩
  rw [hrl]
  exact O4.out.1
theorem rdata_any (k s n l c : Nat) (w : World) (hk : k = 48 ∨ k = 49 ∨ k = 50 ∨ k = 51) (hs : s < 4294967296) (hl : l < 4294967296) : Calls Tryd.prog 92 #[recV k s n l c] w (DataRes (recData k s n l c) w) := by
  rcases hk with rfl | rfl | rfl | rfl
  · exact rdata_start s n l c w hs hl
  · exact rdata_done s n l c w hs hl
  · exact rdata_fail s n l c w hs hl
  · exact rdata_end s n l c w hs hl
end Go.Proofs.YtabklmkdneoaaaaDoor
/- kinref26.Pack, kinlaw26.Plain: the walks. -/
namespace Go.Proofs.YtabklmkdneoaaaaDoor
open Go.RowKit

set_option maxRecDepth 100000 in
set_option maxHeartbeats 1000000 in
theorem plain_any (r : RecS) (w : World) : Calls Tryd.prog 43 #[r.val] w fun e w' => e = .returned r.val ∧ Below w.heap.size w w' := by
  obtain ⟨k, s, n, l, c⟩ := r
  unfold RecS.val
  dsimp only
  go_enter Tryd.func43, Tryd.ntmps43
  go_wp2_with fail
  exact bodyPost_ret (v := .agg #[.int .i64 k, .int .i64 s, .int .i64 n, .int .i64 l, .int .i64 c]) (by simp [results, Tryd.results43, go_sem]) rfl ⟨rfl, ((Below.refl _ _).alloc (Nat.le_refl _) _).alloc (by simp) _⟩
def RPackRes (r : RecS) (w : World) (e : Ending) (w' : World) : Prop :=
  ∃ A c, e = .returned (.tuple #[.slice A (packU r).length c, .agg #[.int .i64 (packNo r), .slice none 0 0]]) ∧ w'.ownsRow w.heap.size 5 1 (.slice A (packU r).length c) (packU r).length ((packU r).map byteV) ∧ Below w.heap.size w w'
/-- The record's block, the error's block. -/
structure RP (w : World) (k s n l c : Int) (W : World) : Prop where
  r : Blk W w.heap.size 71 #[.int .i64 k, .int .i64 s, .int .i64 n, .int .i64 l, .int .i64 c]
  e : Blk W (w.heap.size + 1) 32 #[.int .i64 0, .slice none 0 0]
  bel : Below w.heap.size w W
  size : w.heap.size + 2 ≤ W.heap.size
theorem RP.new (w : World) (k s n l c : Int) : RP w k s n l c ((w.alloc (.cells #[.int .i64 k, .int .i64 s, .int .i64 n, .int .i64 l, .int .i64 c] 71)).alloc (.cells #[.int .i64 0, .slice none 0 0] 32)) :=
  ⟨(Blk.new _ _ _).alloc _, blk_new_at (by simp) _ _, ((Below.refl _ _).alloc (Nat.le_refl _) _).alloc (by simp) _, by simp⟩
theorem RP.step {w W W' : World} {k s n l c : Int} (h : RP w k s n l c W) (hb : Below W.heap.size W W') : RP w k s n l c W' :=
  ⟨h.r.below hb h.r.lt, h.e.below hb h.e.lt, h.bel.trans (hb.mono h.bel.size), Nat.le_trans h.size hb.size⟩
theorem RP.cells {w W : World} {k s n l c : Int} (h : RP w k s n l c W) : W.cell? ⟨w.heap.size, 0, none⟩ = some (.int .i64 k) ∧ W.cell? ⟨w.heap.size, 1, none⟩ = some (.int .i64 s) ∧ W.cell? ⟨w.heap.size, 2, none⟩ = some (.int .i64 n) ∧ W.cell? ⟨w.heap.size, 3, none⟩ = some (.int .i64 l) ∧ W.cell? ⟨w.heap.size, 4, none⟩ = some (.int .i64 c) := by
  refine ⟨?_, ?_, ?_, ?_, ?_⟩ <;> (rw [h.r.cell]; rfl)
theorem RP.ecells {w W : World} {k s n l c : Int} (h : RP w k s n l c W) : W.cell? ⟨w.heap.size + 1, 0, none⟩ = some (.int .i64 0) ∧ W.cell? ⟨w.heap.size + 1, 1, none⟩ = some (.slice none 0 0) ∧ W.frozen? ⟨w.heap.size + 1, 0, none⟩ = false ∧ W.frozen? ⟨w.heap.size + 1, 1, none⟩ = false := by
  refine ⟨?_, ?_, h.e.frozen 0, h.e.frozen 1⟩ <;> (rw [h.e.cell]; rfl)
/-- Behind the stores of an error without a path. -/
theorem RP.put {w W : World} {k s n l c : Int} (h : RP w k s n l c W) (z : Int) : Below w.heap.size w ((W.setCell ⟨w.heap.size + 1, 0, none⟩ (.int .i64 z)).setCell ⟨w.heap.size + 1, 1, none⟩ (.slice none 0 0)) ∧
    ((W.setCell ⟨w.heap.size + 1, 0, none⟩ (.int .i64 z)).setCell ⟨w.heap.size + 1, 1, none⟩ (.slice none 0 0)).cell? ⟨w.heap.size + 1, 0, none⟩ = some (.int .i64 z) ∧
    ((W.setCell ⟨w.heap.size + 1, 0, none⟩ (.int .i64 z)).setCell ⟨w.heap.size + 1, 1, none⟩ (.slice none 0 0)).cell? ⟨w.heap.size + 1, 1, none⟩ = some (.slice none 0 0) := by
  have hO : Only (fun k => k = w.heap.size + 1) W ((W.setCell ⟨w.heap.size + 1, 0, none⟩ (.int .i64 z)).setCell ⟨w.heap.size + 1, 1, none⟩ (.slice none 0 0)) := ((Only.refl (fun k => k = w.heap.size + 1) W).put (b := w.heap.size + 1) rfl 0 _).put (b := w.heap.size + 1) rfl 1 _
  have hk := (h.e.put 0 (.int .i64 z)).put 1 (.slice none 0 0)
  refine ⟨h.bel.trans ⟨hO.os, hO.tape, hO.output, hO.size, fun k hk => hO.block k (by have := h.bel.size; omega) (by omega)⟩, ?_, ?_⟩
  · rw [hk.cell]; rfl
  · rw [hk.cell]; rfl
theorem RP.putr {w W : World} {k s n l c : Int} (h : RP w k s n l c W) (z : Int) : ((W.setCell ⟨w.heap.size + 1, 0, none⟩ (.int .i64 z)).setCell ⟨w.heap.size + 1, 1, none⟩ (.slice none 0 0)).cell? ⟨w.heap.size, 0, none⟩ = some (.int .i64 k) ∧ ((W.setCell ⟨w.heap.size + 1, 0, none⟩ (.int .i64 z)).setCell ⟨w.heap.size + 1, 1, none⟩ (.slice none 0 0)).cell? ⟨w.heap.size, 1, none⟩ = some (.int .i64 s) ∧ ((W.setCell ⟨w.heap.size + 1, 0, none⟩ (.int .i64 z)).setCell ⟨w.heap.size + 1, 1, none⟩ (.slice none 0 0)).cell? ⟨w.heap.size, 2, none⟩ = some (.int .i64 n) ∧ ((W.setCell ⟨w.heap.size + 1, 0, none⟩ (.int .i64 z)).setCell ⟨w.heap.size + 1, 1, none⟩ (.slice none 0 0)).cell? ⟨w.heap.size, 3, none⟩ = some (.int .i64 l) ∧ ((W.setCell ⟨w.heap.size + 1, 0, none⟩ (.int .i64 z)).setCell ⟨w.heap.size + 1, 1, none⟩ (.slice none 0 0)).cell? ⟨w.heap.size, 4, none⟩ = some (.int .i64 c) := by
  have hk := (h.r.far (p := ⟨w.heap.size + 1, 0, none⟩) (by simp) (.int .i64 z)).far (p := ⟨w.heap.size + 1, 1, none⟩) (by simp) (.slice none 0 0)
  refine ⟨?_, ?_, ?_, ?_, ?_⟩ <;> (rw [hk.cell]; rfl)
set_option maxRecDepth 100000 in
set_option maxHeartbeats 1000000 in
theorem rpack_kind (r : RecS) (w : World) (h : kindB r.kind = false) : Calls Tryd.prog 60 #[r.val] w (RPackRes r w) := by
  have hN : packNo r = 13 := by unfold packNo; rw [if_pos h]
  have hU : packU r = [] := by unfold packU; rw [hN]; rfl
  unfold RPackRes
  rw [hN, hU]
  obtain ⟨k, s, n, l, c⟩ := r
  have HK : Hid (∀ W, Calls Tryd.prog 91 #[.int .i64 k] W fun e w' => e = .returned (.bool false) ∧ W = w') := fun W => (rkind_any k W).mono fun _ _ h' => ⟨by rw [h'.1]; rw [show kindB k = false from h], h'.2⟩
  have R0 := hid (RP.new w k s n l c)
  unfold RecS.val
  dsimp only
  clear hN hU h
  go_enter Tryd.func60, Tryd.ntmps60
  go_wp2_with fail
  refine (HK.out _).mono ?_
  rintro e w2 ⟨rfl, rfl⟩
  go_wp2_with fail
  refine (fail_any 13 _).mono ?_
  rintro e w3 ⟨rfl, hb⟩
  have R1 := hid (R0.out.step hb)
  clear hb
  obtain ⟨e0, e1, f0, f1⟩ := R1.out.ecells
  go_wp2_with fail
  obtain ⟨h1, h2, h3⟩ := R1.out.put 13
  exact bodyPost_ret (v := .tuple #[.slice none 0 0, .agg #[.int .i64 13, .slice none 0 0]]) (by simp [results, Tryd.results60, go_sem, h2, h3]) rfl ⟨none, 0, rfl, World.ownsRow_nil _ _ _ _, h1⟩
set_option maxRecDepth 100000 in
set_option maxHeartbeats 1000000 in
theorem rpack_range (r : RecS) (w : World) (h : kindB r.kind = true) (hm : mayR r = false) : Calls Tryd.prog 60 #[r.val] w (RPackRes r w) := by
  have hN : packNo r = 3 := by unfold packNo; rw [if_neg (by rw [h]; simp), if_pos hm]
  have hU : packU r = [] := by unfold packU; rw [hN]; rfl
  unfold RPackRes
  rw [hN, hU]
  have HM := hid (fun W => rmay_any r W)
  rw [hm] at HM
  obtain ⟨k, s, n, l, c⟩ := r
  have HK : Hid (∀ W, Calls Tryd.prog 91 #[.int .i64 k] W fun e w' => e = .returned (.bool true) ∧ W = w') := fun W => (rkind_any k W).mono fun _ _ h' => ⟨by rw [h'.1]; rw [show kindB k = true from h], h'.2⟩
  have R0 := hid (RP.new w k s n l c)
  unfold RecS.val at *
  dsimp only at *
  clear hN hU h hm
  go_enter Tryd.func60, Tryd.ntmps60
  go_wp2_with fail
  refine (HK.out _).mono ?_
  rintro e w2 ⟨rfl, rfl⟩
  go_wp2_with fail
  refine (HM.out _).mono ?_
  rintro e w3 ⟨rfl, hb⟩
  have R1 := hid (R0.out.step hb)
  clear hb
  go_wp2_with fail
  refine (fail_any 3 _).mono ?_
  rintro e w4 ⟨rfl, hb⟩
  have R2 := hid (R1.out.step hb)
  clear hb
  obtain ⟨e0, e1, f0, f1⟩ := R2.out.ecells
  go_wp2_with fail
  obtain ⟨h1, h2, h3⟩ := R2.out.put 3
  exact bodyPost_ret (v := .tuple #[.slice none 0 0, .agg #[.int .i64 3, .slice none 0 0]]) (by simp [results, Tryd.results60, go_sem, h2, h3]) rfl ⟨none, 0, rfl, World.ownsRow_nil _ _ _ _, h1⟩
set_option maxRecDepth 100000 in
set_option maxHeartbeats 2000000 in
theorem rpack_made (r : RecS) (w : World) (hm : mayR r = true) : Calls Tryd.prog 60 #[r.val] w (RPackRes r w) := by
  obtain ⟨k, s, n, l, c, hr, hk, hs, hn, hl, hc, hkb⟩ := may_nat hm
  have hN : packNo r = 0 := by unfold packNo; rw [if_neg (by rw [hkb]; simp), if_neg (by rw [hm]; simp)]
  have hU : packU r = unitBytes k (recData k s n l c) := by unfold packU; rw [hN, hr]; rfl
  unfold RPackRes
  rw [hN, hU]
  have hlen := recData_len k s n l c
  have HM := hid (fun W => rmay_any r W)
  rw [hm] at HM
  have HK : Hid (∀ W, Calls Tryd.prog 91 #[.int .i64 k] W fun e w' => e = .returned (.bool true) ∧ W = w') := fun W => (rkind_any k W).mono fun _ _ h' => ⟨by rw [h'.1]; rw [show kindB (k : Int) = true by rw [hr] at hkb; exact hkb], h'.2⟩
  have HD := hid (fun W => rdata_any k s n l c W hk hs (by omega))
  have R0 := hid (RP.new w k s n l c)
  subst hr
  clear hN hU hkb hm
  have HU := hid (fun W x (hx : Byt W x (recData k s n l c)) => rmade_unit k x _ W hx (by omega) (by omega) (by omega))
  unfold RecS.val recV DataRes at *
  dsimp only at *
  generalize recData k s n l c = rd at *
  generalize unitBytes k rd = ub at *
  unfold RMadeRes at HU
  clear hk hs hn hl hc hlen
  go_enter Tryd.func60, Tryd.ntmps60
  go_wp2_with fail
  refine (HK.out _).mono ?_
  rintro e w2 ⟨rfl, rfl⟩
  go_wp2_with fail
  refine (HM.out _).mono ?_
  rintro e w3 ⟨rfl, hb⟩
  have R3 := hid (R0.out.step hb)
  clear hb
  have d := R3.out.cells
  obtain ⟨d0, d1, d2, d3, d4⟩ := R3.out.cells
  go_wp2_with fail
  go_region_held3 (fun W => W.cell? ⟨w.heap.size, 0, none⟩ = some (.int .i64 k) ∧ W.cell? ⟨w.heap.size, 1, none⟩ = some (.int .i64 s) ∧ W.cell? ⟨w.heap.size, 2, none⟩ = some (.int .i64 n) ∧ W.cell? ⟨w.heap.size, 3, none⟩ = some (.int .i64 l) ∧ W.cell? ⟨w.heap.size, 4, none⟩ = some (.int .i64 c))
    (first
      | exact E6.out
      | exact E5.out
      | exact E4.out
      | exact d)
    (first
      | (go_at_call 32
         refine (HU.out _ _ (by first | exact O4.out.1 | exact O4.out.1.drew)).mono ?_
         rintro e w5 ⟨g, cap, rfl, ho, hb⟩
         have hbw : Below w4.heap.size w4 w5 := by first | exact hb | exact ⟨hb.os, hb.tape, hb.output, hb.size, hb.block⟩
         have R5 := hid (O4.out.2.step hbw)
         have E5 := hid R5.out.cells
         have E6 := hid (R5.out.putr 0)
         obtain ⟨e0, e1, f0, f1⟩ := R5.out.ecells
         have O5 := hid (And.intro ho O4.out.2.size)
         clear ho hb hbw)
      | (go_at_call 92
         refine (HD.out _).mono ?_
         rintro e w4 ⟨A4, c4, rfl, hO⟩
         have hbw : Below w3.heap.size w3 w4 := by first | exact hO.2.1 | exact ⟨hO.2.1.os, hO.2.1.tape, hO.2.1.output, hO.2.1.size, hO.2.1.block⟩
         have R4 := R3.out.step hbw
         have E4 := hid R4.cells
         have O4 := hid (And.intro (Byt.of_own hO.1 rfl) R4)
         clear hO hbw R4)
      | fail)
  all_goals
    go_wp2_with fail
    obtain ⟨h1, h2, h3⟩ := R5.out.put 0
    have hO : Only (fun k => k = w.heap.size + 1) w5 ((w5.setCell ⟨w.heap.size + 1, 0, none⟩ (.int .i64 0)).setCell ⟨w.heap.size + 1, 1, none⟩ (.slice none 0 0)) := ((Only.refl (fun k => k = w.heap.size + 1) w5).put (b := w.heap.size + 1) rfl 0 _).put (b := w.heap.size + 1) rfl 1 _
    have ho := own_keep2 (own_mono O5.out.1 (B' := w.heap.size + 2) (by first | exact O5.out.2)) hO (fun k hk e => by have := ((own_mono O5.out.1 (B' := w.heap.size + 2) (by first | exact O5.out.2)).lt k hk).1; omega)
    exact bodyPost_ret (v := .tuple #[.slice (some ⟨g, 0, none⟩) ub.length cap, .agg #[.int .i64 0, .slice none 0 0]]) (by simp [results, Tryd.results60, go_sem, h2, h3]) rfl ⟨some ⟨g, 0, none⟩, cap, rfl, by first | exact own_mono ho (by omega) | exact own_mono ho.drew (by omega), by first | exact h1 | exact h1.drew⟩
theorem rpack_any (r : RecS) (w : World) : Calls Tryd.prog 60 #[r.val] w (RPackRes r w) := by
  cases h : kindB r.kind
  · exact rpack_kind r w h
  · cases hm : mayR r
    · exact rpack_range r w h hm
    · exact rpack_made r w hm
end Go.Proofs.YtabklmkdneoaaaaDoor
/- log.get: the walk. -/
namespace Go.Proofs.YtabklmkdneoaaaaDoor
open Go.RowKit

theorem or64_a (x y : UInt8) : bits .or .i64 ((x.toNat : Int) * 16777216) ((y.toNat : Int) * 65536) = (x.toNat : Int) * 16777216 + (y.toNat : Int) * 65536 := by
  have hx := x.toNat_lt
  have hy := y.toNat_lt
  have h := i64_or_nat (x.toNat * 16777216) (y.toNat * 65536) (by omega) (by omega)
  rw [nat_join 24 _ _ (by omega) (by omega)] at h
  simpa using h
theorem or64_b (x y z : UInt8) : bits .or .i64 ((x.toNat : Int) * 16777216 + (y.toNat : Int) * 65536) ((z.toNat : Int) * 256) = (x.toNat : Int) * 16777216 + (y.toNat : Int) * 65536 + (z.toNat : Int) * 256 := by
  have hx := x.toNat_lt
  have hy := y.toNat_lt
  have hz := z.toNat_lt
  have h := i64_or_nat (x.toNat * 16777216 + y.toNat * 65536) (z.toNat * 256) (by omega) (by omega)
  rw [nat_join 16 _ _ (by omega) (by omega)] at h
  simpa using h
theorem or64_c (x y z t : UInt8) : bits .or .i64 ((x.toNat : Int) * 16777216 + (y.toNat : Int) * 65536 + (z.toNat : Int) * 256) (t.toNat : Int) = ((be [x, y, z, t] : Nat) : Int) := by
  have hx := x.toNat_lt
  have hy := y.toNat_lt
  have hz := z.toNat_lt
  have ht := t.toNat_lt
  have h := i64_or_nat (x.toNat * 16777216 + y.toNat * 65536 + z.toNat * 256) t.toNat (by omega) (by omega)
  rw [nat_join 8 _ _ (by omega) (by omega)] at h
  rw [be4]
  simpa using h
set_option maxRecDepth 100000 in
set_option maxHeartbeats 1000000 in
theorem gget_any (x : Value) (x0 x1 x2 x3 : UInt8) (r : List UInt8) (w : World) (hx : Byt w x (x0 :: x1 :: x2 :: x3 :: r)) :
    Calls Tryd.prog 93 #[x] w fun e w' => e = .returned (.int .i64 (be [x0, x1, x2, x3] : Nat)) ∧ ∃ n, w' = w.drewN n := by
  obtain ⟨A, c, rfl, hc⟩ := hx.form
  obtain ⟨b, off, u, rfl, _, _, _⟩ := hx.at_ (j := 0) (by simp)
  have c0 := hx.cell 0 x0 rfl
  have c1 : w.cell? ⟨b, off + 1, none⟩ = some (.int .u8 x1.toNat) := hx.cell 1 x1 rfl
  have c2 : w.cell? ⟨b, off + 2, none⟩ = some (.int .u8 x2.toNat) := hx.cell 2 x2 rfl
  have c3 : w.cell? ⟨b, off + 3, none⟩ = some (.int .u8 x3.toNat) := hx.cell 3 x3 rfl
  rw [Nat.add_zero] at c0
  have hlen : (x0 :: x1 :: x2 :: x3 :: r).length = r.length + 4 := rfl
  rw [hlen]
  have i0 : (0 : Int) < ((r.length + 4 : Nat) : Int) := by omega
  have i1 : (1 : Int) < ((r.length + 4 : Nat) : Int) := by omega
  have i2 : (2 : Int) < ((r.length + 4 : Nat) : Int) := by omega
  have i3 : (3 : Int) < ((r.length + 4 : Nat) : Int) := by omega
  have l0 := x0.toNat_lt
  have l1 := x1.toNat_lt
  have l2 := x2.toNat_lt
  have l3 := x3.toNat_lt
  have o1 := or64_a x0 x1
  have o2 := or64_b x0 x1 x2
  have o3 := or64_c x0 x1 x2 x3
  clear hx hc hlen
  go_enter Tryd.func93, Tryd.ntmps93
  go_wp2_with fail
  go_quiet (fail)
  go_wp2_with fail
  go_ret
  exact ⟨rfl, _, rfl⟩
end Go.Proofs.YtabklmkdneoaaaaDoor
