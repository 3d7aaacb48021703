/- A unit with one byte turned, plain. -/
import Derived.Test.YtabklmkdneoaaaaDoorUMakeAny
namespace Go.Proofs.YtabklmkdneoaaaaDoor

theorem sum_set {L : List UInt8} {i : Nat} {v y : UInt8} (hv : L[i]? = some v) (hy : y ≠ v) : sumOf (L.set i y) ≠ sumOf L := by
  obtain ⟨hi, rfl⟩ := List.getElem?_eq_some_iff.1 hv
  intro h
  rw [List.set_eq_take_append_cons_drop, if_pos hi] at h
  have e2 : L = L.take i ++ L[i] :: L.drop (i + 1) := by rw [List.getElem_cons_drop, List.take_append_drop]
  have h2 : sumOf (L.take i ++ y :: L.drop (i + 1)) = sumOf (L.take i ++ L[i] :: L.drop (i + 1)) := by rw [← e2]; exact h
  exact hy (sumOf_turned _ _ _ _ h2)
theorem be_set {q : List UInt8} {i : Nat} {v y : UInt8} (hq : q.length = 4) (hv : q[i]? = some v) (hy : y ≠ v) : be (q.set i y) ≠ be q := by
  have hn : y.toNat ≠ v.toNat := fun h => hy (UInt8.toNat_inj.1 h)
  match q, hq with
  | [a, b, c, d], _ =>
    have l1 := a.toNat_lt
    have l2 := b.toNat_lt
    have l3 := c.toNat_lt
    have l4 := d.toNat_lt
    have l5 := y.toNat_lt
    match i, hv with
    | 0, hv =>
      obtain rfl : a = v := by simpa using hv
      show be [y, b, c, d] ≠ _
      rw [be4, be4]; omega
    | 1, hv =>
      obtain rfl : b = v := by simpa using hv
      show be [a, y, c, d] ≠ _
      rw [be4, be4]; omega
    | 2, hv =>
      obtain rfl : c = v := by simpa using hv
      show be [a, b, y, d] ≠ _
      rw [be4, be4]; omega
    | 3, hv =>
      obtain rfl : d = v := by simpa using hv
      show be [a, b, c, y] ≠ _
      rw [be4, be4]; omega
    | j + 4, hv => simp at hv
theorem xor_turns {v x : UInt8} (hx : x ≠ 0) : v ^^^ x ≠ v := by
  intro h
  have h1 := congrArg UInt8.toNat h
  rw [UInt8.toNat_xor] at h1
  have h2 : v.toNat ^^^ x.toNat = v.toNat ^^^ 0 := by rw [Nat.xor_zero]; exact h1
  have h3 := xor_left h2
  exact hx (UInt8.toNat_inj.1 h3)
theorem nextU_no4 {u x1 x2 x3 : UInt8} {d q : List UInt8} (h0 : u ≠ 0) (hn : be [x1, x2, x3] = d.length) (hl : d.length ≤ 65536) (hq : q.length = 4) (hs : be q ≠ sumOf (u :: x1 :: x2 :: x3 :: d)) :
    nextU (u :: x1 :: x2 :: x3 :: (d ++ q)) 0 = .no [(unitS, 0)] 4 := by
  have h : readU (u :: x1 :: x2 :: x3 :: (d ++ q)) = .no 4 := by
    rw [readU_long h0, hn, if_neg (by omega), if_neg (by simp [hq]), List.take_left, List.drop_left, List.take_of_length_le (by omega), if_neg hs]
  unfold nextU
  rw [if_neg (by simp; omega)]
  show (match readU (u :: x1 :: x2 :: x3 :: (d ++ q)) with | .no c => _ | .fill => _ | .unit k d => _) = _
  rw [h]
  rfl
theorem nextU_turned {k : Nat} {d : List UInt8} {p : Nat} {v y : UInt8} (hk : 1 ≤ k ∧ k ≤ 255) (hd : d.length ≤ 65536) (hp : (unitBytes k d)[p]? = some v) (hy : y ≠ v) (hnp : p < 1 ∨ 3 < p) (h0 : ((unitBytes k d).set p y)[0]? ≠ some 0) :
    nextU ((unitBytes k d).set p y) 0 = .no [(unitS, 0)] 4 := by
  have e : unitBytes k d = UInt8.ofNat k :: UInt8.ofNat (d.length / 65536) :: UInt8.ofNat (d.length / 256) :: UInt8.ofNat d.length :: (d ++ quad (sumOf (unitHd k d))) := by
    unfold unitBytes
    rw [if_neg (by omega)]
    simp [unitHd, three]
  have eh : unitHd k d = UInt8.ofNat k :: UInt8.ofNat (d.length / 65536) :: UInt8.ofNat (d.length / 256) :: UInt8.ofNat d.length :: d := by simp [unitHd, three]
  have hn : be [UInt8.ofNat (d.length / 65536), UInt8.ofNat (d.length / 256), UInt8.ofNat d.length] = d.length := be_three (n := d.length) (by omega)
  have hq : (quad (sumOf (unitHd k d))).length = 4 := rfl
  have hs : be (quad (sumOf (unitHd k d))) = sumOf (unitHd k d) := be_quad (sumOf_lt _)
  rw [e] at hp h0 ⊢
  generalize quad (sumOf (unitHd k d)) = q at *
  rw [eh] at hs
  generalize UInt8.ofNat k = u at *
  generalize UInt8.ofNat (d.length / 65536) = x1 at *
  generalize UInt8.ofNat (d.length / 256) = x2 at *
  generalize UInt8.ofNat d.length = x3 at *
  rcases p with _ | p
  · obtain rfl : u = v := by simpa using hp
    rw [List.set_cons_zero] at h0 ⊢
    refine nextU_no4 (by simpa using h0) hn hd hq ?_
    rw [hs]
    exact (sum_set (L := u :: x1 :: x2 :: x3 :: d) (i := 0) rfl hy).symm
  · obtain ⟨i, rfl⟩ : ∃ i, p = i + 3 := ⟨p - 3, by omega⟩
    have hu0 : u ≠ 0 := by simpa using h0
    have hp2 : (d ++ q)[i]? = some v := by simpa using hp
    show nextU (u :: x1 :: x2 :: x3 :: (d ++ q).set i y) 0 = _
    rw [List.set_append]
    split
    · rename_i hi
      refine nextU_no4 hu0 (by rw [List.length_set]; exact hn) (by rw [List.length_set]; exact hd) hq ?_
      rw [hs]
      rw [List.getElem?_append_left hi] at hp2
      exact (sum_set (L := u :: x1 :: x2 :: x3 :: d) (i := i + 4) (by simpa using hp2) hy).symm
    · rename_i hi
      refine nextU_no4 hu0 hn hd (by rw [List.length_set]; exact hq) ?_
      rw [← hs]
      rw [List.getElem?_append_right (by omega)] at hp2
      exact be_set hq hp2 hy
end Go.Proofs.YtabklmkdneoaaaaDoor
