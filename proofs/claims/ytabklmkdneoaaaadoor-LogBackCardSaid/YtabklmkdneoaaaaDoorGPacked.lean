/- Chapter 26: the loop that packs records one behind the other: its plain words. -/
import Derived.Test.YtabklmkdneoaaaaDoorGJoinP
import Derived.Test.YtabklmkdneoaaaaDoorGAgain
namespace Go.Proofs.YtabklmkdneoaaaaDoor
open Go.RowKit

def goods (rs : List RecS) : List RecS := rs.filter mayR
theorem packNo_may (r : RecS) : packNo r = 0 ↔ mayR r = true := by
  constructor
  · intro h
    unfold packNo at h
    split at h
    · cases h
    · split at h
      · cases h
      · rename_i h2; simpa using h2
  · intro h
    obtain ⟨_, _, _, _, _, _, _, _, _, _, _, hkb⟩ := may_nat h
    unfold packNo
    rw [if_neg (by rw [hkb]; simp), if_neg (by rw [h]; simp)]
theorem goods_yes {rs : List RecS} {j : Nat} {r : RecS} (h : rs[j]? = some r) (hm : mayR r = true) : goods (rs.take (j + 1)) = goods (rs.take j) ++ [r] := by
  unfold goods
  rw [List.take_add_one, h]
  simp [List.filter_append, hm]
theorem goods_no {rs : List RecS} {j : Nat} {r : RecS} (h : rs[j]? = some r) (hm : mayR r = false) : goods (rs.take (j + 1)) = goods (rs.take j) := by
  unfold goods
  rw [List.take_add_one, h]
  simp [List.filter_append, hm]
theorem goods_may (rs : List RecS) : ∀ r ∈ goods rs, mayR r = true := fun _ hr => (List.mem_filter.1 hr).2
theorem goods_len (rs : List RecS) : (goods rs).length ≤ rs.length := List.length_filter_le _ _
theorem packs_snoc (rs : List RecS) (r : RecS) : packs (rs ++ [r]) = packs rs ++ packU r := by simp [packs]
theorem packs_bound (rs : List RecS) : (packs rs).length ≤ rs.length * 17 := by
  induction rs with
  | nil => simp [packs]
  | cons r rs ih =>
    have h := packU_len r
    unfold packs at *
    rw [List.flatMap_cons, List.length_append, List.length_cons]
    omega
end Go.Proofs.YtabklmkdneoaaaaDoor
