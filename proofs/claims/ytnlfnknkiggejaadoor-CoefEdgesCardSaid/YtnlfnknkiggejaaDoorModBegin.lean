/- The model's chances at first. -/
import Derived.Test.YtnlfnknkiggejaaDoorRefEncMore
namespace Go.Proofs.YtnlfnknkiggejaaDoor
open Go.RowKit

/-- Chances as cells. -/
def chV (P : List Nat) : Array Value := (P.map fun p => Value.int .i64 (p : Nat)).toArray
theorem chV_size (P : List Nat) : (chV P).size = P.length := by simp [chV]
theorem chV_get (P : List Nat) (i : Nat) (h : i < P.length) : (chV P)[i]? = some (.int .i64 (P.getD i 0 : Nat)) := by
  simp [chV, h, List.getD]
theorem chV_set (P : List Nat) (i v : Nat) : (chV P).setIfInBounds i (.int .i64 (v : Nat)) = chV (P.set i v) := by
  simp [chV, List.map_set]
theorem chV_one (P : List Nat) : (chV P).all (·.oneCell') = true := by
  simp [chV, Value.oneCell']
def first64 : List Nat := List.replicate 64 1024

theorem setRow_other' (w : World) (g k : Nat) (cs : Array Value) (h : k ≠ g) : (w.setRow g cs).heap[k]? = w.heap[k]? := setRow_other w g k cs h
theorem Only.setRow {S : Nat → Prop} {w w' : World} (h : Only S w w') {g : Nat} (hg : g < w.heap.size → S g) (cs : Array Value) : Only S w (w'.setRow g cs) :=
  ⟨h.os, h.tape, h.output, by simpa using h.size, fun k hk hn => (setRow_other w' g k cs (by
    rintro rfl
    exact hn (hg hk))).trans (h.block k hk hn)⟩
theorem Blk.row {w : World} {g : Nat} {t : TypeId} {cs : Array Value} (h : Blk w g t cs) (cs' : Array Value) : Blk (w.setRow g cs') g t cs' := setRow_heap w g cs cs' t _ h
theorem below_of_only {S : Nat → Prop} {w w' : World} (h : Only S w w') (hs : ∀ k, k < w.heap.size → ¬ S k) : Below w.heap.size w w' := ⟨h.os, h.tape, h.output, h.size, fun k hk => h.block k hk (hs k hk)⟩

def beginMid (j : Nat) : List Nat := List.replicate j 1024 ++ List.replicate (64 - j) 0
theorem beginMid_len (j : Nat) (h : j ≤ 64) : (beginMid j).length = 64 := by simp [beginMid]; omega
theorem beginMid_get (j : Nat) (h : j < 64) : (beginMid j).getD j 0 = 0 := by
  unfold beginMid
  rw [List.getD_eq_getElem?_getD, List.getElem?_append_right (by simp)]
  simp [show 0 < 64 - j by omega]
theorem beginMid_set (j : Nat) (h : j < 64) : (beginMid j).set j 1024 = beginMid (j + 1) := by
  unfold beginMid
  rw [List.set_append_right _ _ (by simp)]
  rw [show 64 - j = (64 - (j + 1)) + 1 by omega, List.replicate_succ, List.replicate_succ']
  simp

set_option maxRecDepth 100000 in
set_option maxHeartbeats 800000 in
theorem begin_any (w : World) : Calls Tryd.prog 50 #[] w fun e w' => e = .returned (.agg (chV first64)) ∧ Below w.heap.size w w' := by
  have hz : chV (beginMid 0) = Array.replicate 64 (.int .i64 0) := by rfl
  have hs : (Tryd.prog.info? 62).map (·.size) = some 64 := by kernel_rfl
  go_enter Tryd.func50, Tryd.ntmps50
  go_wp2_with fail
  refine wp_named (fun W => Blk W w.heap.size 62 (chV (beginMid 0)) ∧ Blk W (w.heap.size + 1) 62 (chV (beginMid 0)) ∧ Only (fun _ => False) w W) ?_ ?_
  · exact ⟨(Blk.new w _ (chV (beginMid 0))).alloc _, Blk.newAt _ _ (chV (beginMid 0)) (by simp), ((Only.refl _ w).alloc _).alloc _⟩
  rintro W ⟨hA, hB, hO⟩
  generalize hH : w.heap.size = H at *
  have Z := hid (And.intro hA (And.intro hB hO))
  have SZ := hid (And.intro hs hH)
  clear hA hB hO hz hs hH
  go_loopg [3] 64 (fun k i wr => ∃ j : Nat, j + k = 64 ∧ i = .int .i64 j ∧ Blk wr (H + 1) 62 (chV (beginMid j)) ∧ Only (· = H + 1) W wr)
  case atStart => exact ⟨0, rfl, rfl, Z.out.2.1, Only.refl _ _⟩
  case round =>
    obtain ⟨j, hj, rfl, hb, ho⟩ := hrel
    by_cases hlt : j < 64
    · have h0 := hb.cell j
      have f0 := hb.frozen j
      rw [chV_get _ _ (by rw [beginMid_len _ (by omega)]; omega), beginMid_get j hlt] at h0
      have X := hid (And.intro hb ho)
      clear hb ho
      have k0 : (0 : Int) ≤ (j : Int) := by omega
      have k1 : (j : Int) < 64 := by omega
      go_wp2
      go_roundg (gk - 1)
      case measure => omega
      case rel =>
        refine ⟨j + 1, by omega, by go_num, ?_, X.out.2.put (by rfl) j _⟩
        have := X.out.1.put j (.int .i64 (1024 : Nat))
        rw [chV_set, beginMid_set j hlt] at this
        exact this
    · obtain rfl : j = 64 := by omega
      have hA : Blk wr H 62 (chV (beginMid 0)) := Z.out.1.keep ho (by omega)
      have X := hid (And.intro hb (And.intro ho hA))
      have hsz : (chV (beginMid 64)).size = 64 := by rw [chV_size, beginMid_len _ (by omega)]
      have HS := hid hsz
      clear hb ho hA hsz
      go_wp2_with
        (first
          | (refine wpList_load_row rfl 62 _ rfl (H + 1) rfl 62 (chV (beginMid 64)) (0, 0) _ X.out.1 Tryd.underlying62 rfl (by rw [HS.out]; exact SZ.out.1) ?_)
          | (refine wpList_store_row rfl 62 _ _ rfl H (chV (beginMid 64)) rfl rfl 62 (chV (beginMid 0)) X.out.2.2 (by rw [HS.out]; exact SZ.out.1) (by rw [chV_size, chV_size, beginMid_len _ (by omega), beginMid_len _ (by omega)]) (chV_one _) ?_))
      refine bodyPost_ret (v := .agg (chV (beginMid 64))) (by exact results_cell_row (by rfl) _ _ H 62 (chV (beginMid 64)) (0, 0) _ (by rfl) (X.out.2.2.row _) Tryd.underlying62 (by rfl) (by rw [HS.out]; exact SZ.out.1)) (by rfl) ⟨rfl, ?_⟩
      have hH := SZ.out.2
      rw [← hH]
      refine below_of_only (S := fun k => k = H ∨ k = H + 1) ?_ (fun k hk => by omega)
      refine Only.setRow ?_ (fun _ => .inl hH) _
      exact (Z.out.2.2.mono (fun _ _ h => h.elim)).trans (X.out.2.1.mono (fun k _ h => .inr h))
end Go.Proofs.YtnlfnknkiggejaaDoor
