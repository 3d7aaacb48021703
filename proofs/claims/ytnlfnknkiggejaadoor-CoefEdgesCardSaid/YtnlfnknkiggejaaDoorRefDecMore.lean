/- The document's decoder: Code, NewDecoder; Fail. -/
import Derived.Test.YtnlfnknkiggejaaDoorRefDec
namespace Go.Proofs.YtnlfnknkiggejaaDoor
open Go.RowKit

def errV (c : Int) : Value := .agg #[.int .i64 c, .slice none 0 0]

theorem below_only {S : Nat → Prop} {w w' : World} (h : Below w.heap.size w w') : Only S w w' := ⟨h.os, h.tape, h.output, h.size, fun k hk _ => h.block k hk⟩

set_option maxHeartbeats 400000 in
theorem rdec_code_no (b : Nat) (p : Int) (w : World) (h : p < 1 ∨ 2047 < p) :
    Calls Tryd.prog 87 #[.pointer (some ⟨b, 0, none⟩), .int .i64 p] w fun e w' => e = .returned (.tuple #[.bool false, .agg #[.int .i64 3, .slice none 0 0]]) ∧ Below w.heap.size w w' := by
  have hx : (p < 1) ∨ (1 ≤ p ∧ 2047 < p) := by omega
  clear h
  rcases hx with h | ⟨h, h'⟩
  all_goals
    go_enter Tryd.func87, Tryd.ntmps87
    go_wp2_with fail
    refine (fail_any 3 _).mono ?_
    rintro e w' ⟨rfl, hb⟩
    have hz := hb.size
    have hc0 := hb.cell (p := ⟨w.heap.size, 0, none⟩) (by simp)
    have hc1 := hb.cell (p := ⟨w.heap.size, 1, none⟩) (by simp)
    have hf0 := hb.frozen (p := ⟨w.heap.size, 0, none⟩) (by simp)
    have hf1 := hb.frozen (p := ⟨w.heap.size, 1, none⟩) (by simp)
    simp at hc0 hc1 hf0 hf1 hz
    have B := hid hb
    clear hb
    go_wp2
    refine bodyPost_ret (v := .tuple #[.bool false, .agg #[.int .i64 3, .slice none 0 0]]) (by simp [results, Tryd.results87, go_sem, hc0, hc1]) rfl ⟨rfl, ?_⟩
    exact (((Below.refl _ w).alloc (Nat.le_refl _) _).trans (B.out.mono (by simp))).setCell (Nat.le_refl _) _ |>.setCell (Nat.le_refl _) _

set_option maxHeartbeats 400000 in
theorem rdec_code (b g c p : Nat) (d : Dec) (w : World) (hd : RDecAt w b g c d) (ho : d.ROk 1000000000) (h1 : 1 ≤ p) (h2 : p ≤ 2047) :
    Calls Tryd.prog 87 #[.pointer (some ⟨b, 0, none⟩), .int .i64 p] w fun e w' => e = .returned (.tuple #[.bool (d.bit (d.r / 2048 * p)), .agg #[.int .i64 0, .slice none 0 0]]) ∧ RDecPart w b g c (d.rnarrow (d.r / 2048 * p)) w' := by
  have h3 := hd.blk.cell 3
  simp [rdecCells] at h3
  have hbl := hd.blk.lt
  have hgl : g < w.heap.size := by obtain ⟨cs, hb, _⟩ := hd.bys; exact hb.lt
  have D := hid (And.intro hd ho)
  have hr0 := ho.r0
  have hr1 := ho.r1
  clear hd ho
  generalize hr : d.r = r at *
  have R := hid hr
  clear hr
  have B := hid (And.intro hr0 hr1)
  have hm : 1 ≤ r / 2048 * p ∧ r / 2048 * p < r := by
    have := B.out
    have hq : 8192 ≤ r / 2048 := by omega
    constructor
    · exact Nat.mul_pos (by omega) h1
    · have : r / 2048 * p ≤ r / 2048 * 2047 := Nat.mul_le_mul_left _ h2
      omega
  have M := hid hm
  clear hm
  have e : ((r : Int) / 2048 * (p : Int)) = ((r / 2048 * p : Nat) : Int) := by simp
  have hq0 : 0 ≤ ((r : Int) / 2048 * (p : Int)) := by rw [e]; omega
  have hq1 : ((r : Int) / 2048 * (p : Int)) ≤ 4294967295 := by have := M.out; rw [e]; omega
  clear e
  have D1 : RDecAt (w.alloc (.cells #[.int .i64 0, .slice none 0 0] 38)) b g c d := ⟨D.out.1.blk.alloc _, D.out.1.bys.only (S := fun _ => False) ((Only.refl _ w).alloc _) (fun h => h), D.out.1.len⟩
  have D2 := hid D1
  clear D1
  go_enter Tryd.func87, Tryd.ntmps87
  go_wp2_with fail
  refine (rdec_narrow_at b g c (r / 2048 * p) _ (by simp) d _ D2.out D.out.2 M.out.1 (by rw [R.out]; exact M.out.2)).mono ?_
  rintro e w' ⟨rfl, hp, ho⟩
  have hz := ho.size
  have hc0 := ho.cell (p := ⟨w.heap.size, 0, none⟩) (by simp) (by simp; omega)
  have hc1 := ho.cell (p := ⟨w.heap.size, 1, none⟩) (by simp) (by simp; omega)
  have hf0 := ho.frozen (p := ⟨w.heap.size, 0, none⟩) (by simp) (by simp; omega)
  have hf1 := ho.frozen (p := ⟨w.heap.size, 1, none⟩) (by simp) (by simp; omega)
  simp at hc0 hc1 hf0 hf1 hz
  have P := hid (And.intro hp ho)
  clear hp ho
  go_wp2
  refine bodyPost_ret (v := .tuple #[.bool (d.bit (r / 2048 * p)), .agg #[.int .i64 0, .slice none 0 0]]) (by simp [results, Tryd.results87, go_sem, hc0, hc1]) rfl ⟨rfl, ⟨?_, ?_, ?_⟩, ?_⟩
  · exact (P.out.1.blk.far (p := ⟨w.heap.size, 0, none⟩) (by simp; omega) _).far (p := ⟨w.heap.size, 1, none⟩) (by simp; omega) _
  · exact P.out.1.bys.only (S := (· = w.heap.size)) (((Only.refl _ w').put (by rfl) 0 _).put (by rfl) 1 _) (by omega)
  · exact P.out.1.len
  · exact (((Only.refl _ w).alloc _).trans P.out.2).setCell (fun h => absurd h (by simp)) _ |>.setCell (fun h => absurd h (by simp)) _

def RDecNew (w : World) (bs : List UInt8) (e : Ending) (w' : World) : Prop :=
  ∃ b g c, e = .returned (.pointer (some ⟨b, 0, none⟩)) ∧ RDecAt w' b g c (Dec.rnew bs) ∧ w.heap.size ≤ b ∧ w.heap.size ≤ g ∧ Below w.heap.size w w'

/-- i bytes more. -/
def rnexts : Nat → Dec → Dec
  | 0, d => d
  | i + 1, d => (rnexts i d).rnext
theorem rnexts_at (i : Nat) (d : Dec) : (rnexts i d).at_ = d.at_ + i ∧ (d.off ≤ 1099511627776 → (rnexts i d).off ≤ 1099511627776) := by
  induction i with
  | zero => exact ⟨rfl, fun h => h⟩
  | succ i ih => exact ⟨by simp only [rnexts, Dec.rnext, ih.1]; omega, fun _ => by simp only [rnexts, Dec.rnext]; omega⟩

set_option maxRecDepth 100000 in
set_option maxHeartbeats 400000 in
theorem rnew_decoder (x : Value) (bs : List UInt8) (w : World) (hx : From w 1 x bs.length (bs.map byteV)) (hl : bs.length ≤ 1000000000) :
    Calls Tryd.prog 72 #[x] w (RDecNew w bs) := by
  have X := hid hx
  clear hx
  go_enter Tryd.func72, Tryd.ntmps72
  go_wp2_with fail
  refine (copy_bytes x bs w X.out (by omega)).mono ?_
  rintro e w1 ⟨g, cap, rfl, hown, hb⟩
  have hw1 := hb.size
  have hg : w.heap.size ≤ g ∧ g < w1.heap.size := by
    rcases hown.2 with ⟨h1, _⟩ | ⟨g', c', cur, h1, h2, h3, _⟩
    · cases h1
    · injection h1 with h1
      injection h1 with h1
      injection h1 with h1
      subst h1
      exact ⟨h2, (Array.getElem?_eq_some_iff.1 h3).1⟩
  have hd0 : RDecAt (w1.alloc (.cells (rdecCells ⟨bs, 0, 0, 4294967295⟩ g cap) 133)) w1.heap.size g cap ⟨bs, 0, 0, 4294967295⟩ :=
    ⟨Blk.new _ _ _, (bys_of_own (base := w.heap.size) hown).only ((Only.refl (fun _ => False) w1).alloc _) (fun h => h), by show bs.length ≤ _; omega⟩
  have hb0 : Below w.heap.size w (w1.alloc (.cells (rdecCells ⟨bs, 0, 0, 4294967295⟩ g cap) 133)) := hb.alloc hw1 _
  generalize hbd : w1.heap.size = b at *
  have Z := hid (And.intro hd0 (And.intro hb0 (And.intro hg hw1)))
  clear hd0 hb0 hg hw1 hb hown X
  go_wp2_with fail
  go_loopg [4] 4 (fun k i wr => ∃ j : Nat, j + k = 4 ∧ i = .int .i64 j ∧ RDecAt wr b g cap (rnexts j ⟨bs, 0, 0, 4294967295⟩) ∧ Below w.heap.size w wr)
  case atStart => exact ⟨0, rfl, rfl, Z.out.1, Z.out.2.1⟩
  case round =>
    obtain ⟨j, hj, rfl, hd, hb⟩ := hrel
    have H := hid (And.intro hd hb)
    clear hd hb
    by_cases hlt : j < 4
    · go_wp2_with fail
      refine (rnext_any b g cap _ _ H.out.1 (by rw [(rnexts_at j _).1]; show 0 + j ≤ _; omega) ((rnexts_at j _).2 (Nat.zero_le _))).mono ?_
      rintro e w' ⟨rfl, hp, ho⟩
      have P := hid (And.intro hp ho)
      clear hp ho
      go_wp2_with fail
      go_roundg (gk - 1)
      case measure => omega
      case rel => exact ⟨j + 1, by omega, by go_num, P.out.1, H.out.2.trans ⟨P.out.2.os, P.out.2.tape, P.out.2.output, P.out.2.size, fun k hk => P.out.2.block k (by have := H.out.2.size; omega) (by have := Z.out.2.2.2; omega)⟩⟩
    · obtain rfl : j = 4 := by omega
      go_wp2
      go_ret
      exact ⟨b, g, cap, rfl, H.out.1, Z.out.2.2.2, Z.out.2.2.1.1, H.out.2⟩
end Go.Proofs.YtnlfnknkiggejaaDoor
