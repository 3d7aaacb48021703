/- RacSize: the plain law and the walk. -/
import Derived.Test.YtgdhbmpdicdbpaaDoorLawZeros
import Derived.Test.YtgdhbmpdicdbpaaDoorRound
namespace Go.Proofs.YtgdhbmpdicdbpaaDoor
open Go.RowKit

/-- Behind n flat bits: m steps since the last byte was settled, the width no less than this. -/
def bnd (m : Nat) : Nat := (4294967296 - 256) / 2 ^ m
structure SizeAt (e : Enc) (n : Nat) : Prop where
  r0 : 16777216 ≤ e.r
  ex : ∃ m, m ≤ 8 ∧ (m < 8 → n = 8 * e.out.length + m) ∧ 8 * e.out.length + m ≤ n ∧ bnd m ≤ e.r
theorem norm_once {e : Enc} (h : 65536 ≤ e.r) : Enc.norm 3 e = if e.r < 16777216 then e.step else e := by
  rw [Enc.norm]
  split
  · rw [Enc.norm, if_neg (by show ¬ e.r * 256 < 16777216; omega)]
  · rfl
theorem SizeAt.flat {e : Enc} {n : Nat} (h : SizeAt e n) (u : Bool) : SizeAt (e.narrow (e.r / 2) u) (n + 1) := by
  obtain ⟨h0, m, hm, h1, h2, h3⟩ := h
  have hr : e.r / 2 ≤ (e.part (e.r / 2) u).r := by
    rw [Enc.part_r]; cases u <;> simp; omega
  have hl : (e.part (e.r / 2) u).out.length = e.out.length := by
    have := Enc.part_n e (e.r / 2) u
    unfold Enc.n at this
    omega
  unfold Enc.narrow
  rw [norm_once (by omega)]
  generalize e.part (e.r / 2) u = q at *
  have hs : q.step.out.length = q.out.length + 1 := by show (q.out ++ [_]).length = _; simp
  have hsr : q.step.r = q.r * 256 := rfl
  split
  · rename_i hlt
    refine ⟨by rw [hsr]; omega, ?_⟩
    rw [hs, hsr, hl]
    match m, hm, h1, h2, h3 with
    | 0, _, h1, h2, h3 => simp [bnd] at h3; omega
    | 1, _, h1, h2, h3 => simp [bnd] at h3; omega
    | 2, _, h1, h2, h3 => simp [bnd] at h3; omega
    | 3, _, h1, h2, h3 => simp [bnd] at h3; omega
    | 4, _, h1, h2, h3 => simp [bnd] at h3; omega
    | 5, _, h1, h2, h3 => simp [bnd] at h3; omega
    | 6, _, h1, h2, h3 => simp [bnd] at h3; omega
    | 7, _, h1, h2, h3 => simp [bnd] at h3; exact ⟨0, by omega, by omega, by omega, by simp [bnd]; omega⟩
    | 8, _, h1, h2, h3 =>
      by_cases hn : n + 1 < 8 * (e.out.length + 1) + 8
      · refine ⟨n + 1 - 8 * (e.out.length + 1), by omega, by omega, by omega, ?_⟩
        have hk : 1 ≤ n + 1 - 8 * (e.out.length + 1) := by omega
        refine Nat.le_trans (Nat.div_le_div_left (Nat.pow_le_pow_right (by omega) hk) (by omega)) ?_
        show (4294967296 - 256) / 2 ^ 1 ≤ _
        omega
      · exact ⟨8, by omega, by omega, by omega, by simp [bnd]; omega⟩
  · rename_i hge
    refine ⟨by omega, ?_⟩
    rw [hl]
    match m, hm, h1, h2, h3 with
    | 0, _, h1, h2, h3 => simp [bnd] at h3; exact ⟨1, by omega, by omega, by omega, by simp [bnd]; omega⟩
    | 1, _, h1, h2, h3 => simp [bnd] at h3; exact ⟨2, by omega, by omega, by omega, by simp [bnd]; omega⟩
    | 2, _, h1, h2, h3 => simp [bnd] at h3; exact ⟨3, by omega, by omega, by omega, by simp [bnd]; omega⟩
    | 3, _, h1, h2, h3 => simp [bnd] at h3; exact ⟨4, by omega, by omega, by omega, by simp [bnd]; omega⟩
    | 4, _, h1, h2, h3 => simp [bnd] at h3; exact ⟨5, by omega, by omega, by omega, by simp [bnd]; omega⟩
    | 5, _, h1, h2, h3 => simp [bnd] at h3; exact ⟨6, by omega, by omega, by omega, by simp [bnd]; omega⟩
    | 6, _, h1, h2, h3 => simp [bnd] at h3; exact ⟨7, by omega, by omega, by omega, by simp [bnd]; omega⟩
    | 7, _, h1, h2, h3 => exact ⟨8, by omega, by omega, by omega, by simp [bnd]; omega⟩
    | 8, _, h1, h2, h3 => exact ⟨8, by omega, by omega, by omega, by simp [bnd]; omega⟩
theorem SizeAt.new : SizeAt Enc.new 0 := ⟨by show 16777216 ≤ 4294967295; omega, 0, by omega, fun _ => rfl, Nat.le_refl _, by show bnd 0 ≤ 4294967295; simp [bnd]⟩
theorem SizeAt.len {e : Enc} {n : Nat} (h : SizeAt e n) : 8 * e.out.length ≤ n := by
  obtain ⟨_, m, _, _, h2, _⟩ := h
  omega
theorem norm_grows (k : Nat) : ∀ e : Enc, e.out.length ≤ (Enc.norm k e).out.length := by
  induction k with
  | zero => intro e; exact Nat.le_refl _
  | succ k ih =>
    intro e
    rw [Enc.norm]
    split
    · have := ih e.step
      have hs : e.step.out.length = e.out.length + 1 := by show (e.out ++ [_]).length = _; simp
      omega
    · exact Nat.le_refl _
theorem narrow_grows (e : Enc) (v : Nat) (u : Bool) : e.out.length ≤ (e.narrow v u).out.length := by
  have h1 := norm_grows 3 (e.part v u)
  have h2 := Enc.part_n e v u
  unfold Enc.n at h2
  unfold Enc.narrow
  omega
theorem bytes_le (e : Enc) : e.bytes.length ≤ e.out.length + 4 := by
  obtain ⟨z, hz⟩ := trim_zeros (e.out ++ four e.low)
  have h2 := congrArg List.length hz
  simp only [List.length_append, List.length_replicate, four_len] at h2
  show (trim (e.out ++ four e.low)).length ≤ _
  omega
end Go.Proofs.YtgdhbmpdicdbpaaDoor
