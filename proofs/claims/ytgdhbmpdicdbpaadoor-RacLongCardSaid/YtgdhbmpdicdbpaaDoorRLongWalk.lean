/- RacLong: the walk. -/
import Derived.Test.YtgdhbmpdicdbpaaDoorRBackWalk
namespace Go.Proofs.YtgdhbmpdicdbpaaDoor
open Go.RowKit

def long1 (p : Int) (b : Bool) (j : Nat) : List Op12 := List.replicate j ⟨p, b⟩
def long2 (b : Bool) (j : Nat) : List Op12 := (List.range j).flatMap fun (i : Nat) => [⟨1 + (i : Int) % 2047, !b⟩, ⟨0, (i : Int) % 3 == 0⟩]
theorem long1_len (p : Int) (b : Bool) (j : Nat) : (long1 p b j).length = j := by simp [long1]
theorem long2_len (b : Bool) (j : Nat) : (long2 b j).length = j * 2 := by
  unfold long2
  induction j with
  | zero => rfl
  | succ j ih => rw [List.range_succ, List.flatMap_append, List.length_append, ih]; simp; omega
theorem long1_succ (p : Int) (b : Bool) (j : Nat) : opCells (long1 p b j) ++ [.int .i64 p, .bool b] = opCells (long1 p b (j + 1)) := by
  unfold long1
  rw [List.replicate_succ', opCells_append]
  rfl
theorem long2_succ (L : List Op12) (b : Bool) (j : Nat) : opCells (L ++ long2 b j) ++ [.int .i64 (1 + (j : Int) % 2047), .bool (!b), .int .i64 0, .bool ((j : Int) % 3 == 0)] = opCells (L ++ long2 b (j + 1)) := by
  have e : long2 b (j + 1) = long2 b j ++ [⟨1 + (j : Int) % 2047, !b⟩, ⟨0, (j : Int) % 3 == 0⟩] := by
    unfold long2
    rw [List.range_succ, List.flatMap_append]
    rfl
  rw [e, ← List.append_assoc, opCells_append (L ++ long2 b j)]
  rfl
theorem ops_of_own {w : World} {base n c : Nat} {t : TypeId} {A : Option Addr} {L : List Op12} (h : w.ownsRow base t 2 (.slice A n c) n (opCells L)) (hL : L.length = n) : OpsAt12 w (.slice A n c) L := by
  refine ⟨A, c, by rw [hL], fun hne => ?_⟩
  have hpos : 0 < n := by
    rcases Nat.eq_zero_or_pos n with h0 | h0
    · exact absurd (List.eq_nil_of_length_eq_zero (by omega)) hne
    · exact h0
  obtain ⟨g, rfl⟩ := own_form2 h hpos
  refine ⟨g, 0, rfl, (h.lt g rfl).2, fun i o ho => ?_⟩
  obtain ⟨a, b⟩ := opCells_at L i o ho
  have hi := (List.getElem?_eq_some_iff.1 ho).1
  rw [Nat.zero_add]
  exact ⟨(h.cellAt (i * 2) (by omega)).trans a, (h.cellAt (i * 2 + 1) (by omega)).trans b⟩

set_option maxRecDepth 100000 in
set_option maxHeartbeats 4000000 in
theorem rlong_walk (p n m : Int) (b : Bool) (w : World) (_ : (Lit.int .i64 p).wf = true) (_ : (Lit.int .i64 n).wf = true) (_ : (Lit.int .i64 m).wf = true) (hg : ErrT w) :
    Calls Tryd.prog 7 #[.int .i64 p, .int .i64 n, .int .i64 m, .bool b] w fun e w' => e = .returned (.bool true) ∧ Below w.heap.size w w' := by
  obtain ⟨i0, hi0, hz0, hz1, hz2⟩ := info_parts info_op
  have IP := hid (And.intro hi0 (And.intro hz0 (And.intro hz1 hz2)))
  clear hi0 hz0 hz1 hz2
  have HG := hid (And.intro hg hg.lt)
  clear hg
  by_cases hin : (0 ≤ n ∧ n ≤ 4000) ∧ (0 ≤ m ∧ m ≤ 4000)
  · obtain ⟨⟨n0, n1⟩, m0, m1⟩ := hin
    obtain ⟨N, rfl⟩ := Int.eq_ofNat_of_zero_le n0
    obtain ⟨M, rfl⟩ := Int.eq_ofNat_of_zero_le m0
    have hN : N ≤ 4000 := by omega
    have hM : M ≤ 4000 := by omega
    have t1 : decide ((N : Int) < 0) = false := by simp
    have t2 : decide ((M : Int) < 0) = false := by simp
    have t3 : decide (4000 < (N : Int)) = false := by simp; omega
    have t4 : decide (4000 < (M : Int)) = false := by simp; omega
    go_enter Tryd.func7, Tryd.ntmps7
    go_wp2_with fail
    refine (first_any _ HG.out.1).mono ?_
    rintro e w1 ⟨rfl, h1⟩
    have B1 := hid h1
    clear h1
    go_wp2_with fail
    go_loopg [9, 10] N (fun k lv i wr => ∃ (j : Nat) (A : Option Addr) (c : Nat), j + k = N ∧ i = .int .i64 j ∧ lv = .slice A j c ∧ wr.ownsRow w.heap.size 29 2 (.slice A j c) j (opCells (long1 p b j)) ∧ Below w.heap.size w wr)
    case atStart => exact ⟨0, none, 0, by omega, rfl, rfl, World.ownsRow_nil _ _ _ _, B1.out⟩
    case round =>
      obtain ⟨j, A, c, hj, rfl, rfl, hown, hbel⟩ := hrel
      by_cases hlt : j < N
      · have HO := hid (And.intro (hown.alloc (.cells #[.int .i64 p, .bool b] 29)) (And.intro hbel hj))
        have hb5 := hid (Blk.new wr 29 #[.int .i64 p, .bool b])
        have BS := hid hbel.size
        have HL := hid (long1_succ p b j)
        clear hown hbel hj
        go_wp2_with (at_builtin; refine wpList_append_form _ rfl _ _ _ rfl w.heap.size 29 i0 (.agg #[.int .i64 0, .bool false]) 2 16 Tryd.underlying22 IP.out.1 IP.out.2.1 IP.out.2.2.1 IP.out.2.2.2 rfl (by omega) (.slice A j c) j (opCells (long1 p b j)) rfl HO.out.1 (.slice (some ⟨wr.heap.size, 0, none⟩) 1 1) 1 [.int .i64 p, .bool b] rfl (from_blk_n (m := 1) (size := 2) hb5.out rfl) (by simp [Value.oneCell']) (.inr (by omega)) (by unfold maxLen; omega) (by omega) (by have := BS.out; simp; omega) (j + 1) (opCells (long1 p b (j + 1))) rfl HL.out ?_; intro g cap w6 hown hgrow hat hgl)
        have hb6 : Below w.heap.size w w6 := (HO.out.2.1.alloc BS.out _).grown hgrow (by have := BS.out; simp; omega) (fun k hk => (HO.out.1.lt k hk).1)
        have Z := hid (And.intro hown hb6)
        clear hown hgrow hat hgl hb6
        have hj := HO.out.2.2
        go_wp2_with fail
        go_roundg (gk - 1)
        case measure => omega
        case rel => exact ⟨j + 1, _, _, by omega, by go_num, rfl, Z.out.1, Z.out.2⟩
      · obtain rfl : j = N := by omega
        have hj1 : decide ((j : Int) < (j : Int)) = false := by simp
        have T := hid (And.intro hown hbel)
        clear hown hbel hlt hj
        go_wp2_with fail
        go_loopg [9, 11] M (fun k lv i wr2 => ∃ (q : Nat) (A : Option Addr) (c : Nat), q + k = M ∧ i = .int .i64 q ∧ lv = .slice A (j + q * 2) c ∧ wr2.ownsRow w.heap.size 29 2 (.slice A (j + q * 2) c) (j + q * 2) (opCells (long1 p b j ++ long2 b q)) ∧ Below w.heap.size w wr2)
        case atStart => exact ⟨0, A, c, by omega, rfl, rfl, by simpa [long2] using T.out.1, T.out.2⟩
        case round =>
          clear T
          obtain ⟨q, A, c, hq, rfl, rfl, hown, hbel⟩ := hrel
          by_cases hlt : q < M
          · have HO := hid (And.intro (hown.alloc (.cells #[.int .i64 (1 + (q : Int) % 2047), .bool (!b), .int .i64 0, .bool ((q : Int) % 3 == 0)] 29)) (And.intro hbel hq))
            have hb5 := hid (Blk.new wr 29 #[.int .i64 (1 + (q : Int) % 2047), .bool (!b), .int .i64 0, .bool ((q : Int) % 3 == 0)])
            have BS := hid hbel.size
            have HL := hid (long2_succ (long1 p b j) b q)
            clear hown hbel hq
            go_wp2_with (at_builtin; refine wpList_append_form _ rfl _ _ _ rfl w.heap.size 29 i0 (.agg #[.int .i64 0, .bool false]) 2 16 Tryd.underlying22 IP.out.1 IP.out.2.1 IP.out.2.2.1 IP.out.2.2.2 rfl (by omega) (.slice A (j + q * 2) c) (j + q * 2) (opCells (long1 p b j ++ long2 b q)) rfl HO.out.1 (.slice (some ⟨wr.heap.size, 0, none⟩) 2 2) 2 [.int .i64 (1 + (q : Int) % 2047), .bool (!b), .int .i64 0, .bool ((q : Int) % 3 == 0)] rfl (from_blk_n (m := 2) (size := 2) hb5.out rfl) (by simp [Value.oneCell']) (.inr (by omega)) (by unfold maxLen; omega) (by omega) (by have := BS.out; simp; omega) (j + (q + 1) * 2) (opCells (long1 p b j ++ long2 b (q + 1))) (by omega) HL.out ?_; intro g cap w6 hown hgrow hat hgl)
            have hb6 : Below w.heap.size w w6 := (HO.out.2.1.alloc BS.out _).grown hgrow (by have := BS.out; simp; omega) (fun k hk => (HO.out.1.lt k hk).1)
            have Z := hid (And.intro hown hb6)
            clear hown hgrow hat hgl hb6
            have hq := HO.out.2.2
            go_wp2_with fail
            go_roundg (gk - 1)
            case measure => omega
            case rel => exact ⟨q + 1, _, _, by omega, by go_num, rfl, Z.out.1, Z.out.2⟩
          · have hj1 : decide ((q : Int) < (M : Int)) = false := by simp; omega
            have hge : M ≤ q := by omega
            have hqM : q ≤ M := by omega
            have hops := ops_of_own hown (by rw [List.length_append, long1_len, long2_len])
            have T := hid (And.intro hops hbel)
            clear hown hbel hops hq hlt
            go_wp2_with fail
            refine (rback_walk _ (long1 p b j ++ long2 b q) _ (by exact T.out.1) (by rw [List.length_append, long1_len, long2_len]; unfold maxLen; omega) (HG.out.1.below T.out.2 HG.out.2)).mono ?_
            rintro y w9 ⟨rfl, h9⟩
            have T9 := hid (T.out.2.trans (h9.mono T.out.2.size))
            clear h9
            go_wp2_with fail
            go_ret
            exact ⟨rfl, T9.out⟩
  · have hx : n < 0 ∨ (0 ≤ n ∧ m < 0) ∨ (0 ≤ n ∧ 0 ≤ m ∧ 4000 < n) ∨ (0 ≤ n ∧ 0 ≤ m ∧ n ≤ 4000 ∧ 4000 < m) := by omega
    clear hin
    rcases hx with hx | ⟨h0, hx⟩ | ⟨h0, h1, hx⟩ | ⟨h0, h1, h2, hx⟩
    all_goals
      go_enter Tryd.func7, Tryd.ntmps7
      go_wp2_with fail
      refine (first_any _ HG.out.1).mono ?_
      rintro e w1 ⟨rfl, h1⟩
      have B1 := hid h1
      clear h1
      go_wp2_with fail
      refine (first_any _ (HG.out.1.below B1.out HG.out.2)).mono ?_
      rintro e w2 ⟨rfl, h1⟩
      have B2 := hid h1
      clear h1
      go_wp2_with fail
      go_ret
      exact ⟨rfl, B1.out.trans (B2.out.mono B1.out.size)⟩
end Go.Proofs.YtgdhbmpdicdbpaaDoor
