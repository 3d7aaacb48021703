/- Chapter 26, plain: records cut off anywhere. -/
import Derived.Test.YtabklmkdneoaaaaDoorGPacked
namespace Go.Proofs.YtabklmkdneoaaaaDoor

theorem nextU_short {k : Nat} {d : List UInt8} (hk : 1 ≤ k ∧ k ≤ 255) (hd : d.length ≤ 65536) {r : Nat} (hr : r < (unitBytes k d).length) : ∃ q c, nextU ((unitBytes k d).take r) 0 = .no q c := by
  rcases Nat.eq_zero_or_pos r with rfl | h0
  · exact ⟨_, _, nextU_end (bs := (unitBytes k d).take 0) (n := 0) (by simp)⟩
  · obtain ⟨q, hq⟩ := unitsOf_short (p := (k, d)) ⟨hk.2, fun e => by have : k = 0 := e; omega, hd⟩ h0 hr
    have hlt : ((unitBytes k d).take r).length = r := by rw [List.length_take]; omega
    cases hN : nextU ((unitBytes k d).take r) 0 with
    | no q c => exact ⟨q, c, rfl⟩
    | ok u =>
      exfalso
      unfold unitsOf at hq
      obtain ⟨m, rfl⟩ : ∃ m, r = m + 1 := ⟨r - 1, by omega⟩
      simp only at hq hlt
      rw [hlt, splitU_ok (n := 0) (by omega) hN] at hq
      injection hq with h1 h2
      cases h1
theorem scan_cut (gs : List RecS) (h : ∀ r ∈ gs, mayR r = true) : ∀ cut, cut ≤ (packs gs).length → ∃ n, n ≤ gs.length ∧ scanAll ((packs gs).take cut) = (gs.take n, (packs (gs.take n)).length) ∧ (packs (gs.take n)).length ≤ cut ∧ (∀ i, i < n → (packs (gs.take (i + 1))).length ≤ cut) ∧ (n < gs.length → cut < (packs (gs.take (n + 1))).length) := by
  induction gs with
  | nil =>
    intro cut hc
    have : cut = 0 := by simpa [packs] using hc
    subst this
    exact ⟨0, Nat.le_refl _, rfl, Nat.le_refl _, fun i hi => by omega, fun hi => by simp at hi⟩
  | cons r gs ih =>
    intro cut hc
    obtain ⟨k, d, hU, h1, h2, h3, h4⟩ := pack_parse (h r (by simp))
    have hp : packs (r :: gs) = unitBytes k d ++ packs gs := by unfold packs; rw [List.flatMap_cons, hU]
    have hpos := unitBytes_pos k d
    rw [hp] at hc ⊢
    by_cases hlt : cut < (unitBytes k d).length
    · rw [List.take_append_of_le_length (by omega)]
      obtain ⟨q, c, hN⟩ := nextU_short ⟨h1, h2⟩ (show d.length ≤ 65536 by omega) hlt
      refine ⟨0, by omega, ?_, by simp [packs], fun i hi => by omega, fun _ => ?_⟩
      · unfold scanAll
        rw [scanR_no (n := 0) hN]
        rfl
      · have : packs ((r :: gs).take (0 + 1)) = unitBytes k d := by simp [packs, hU]
        rw [this]
        exact hlt
    · obtain ⟨t, rfl⟩ : ∃ t, cut = (unitBytes k d).length + t := ⟨cut - (unitBytes k d).length, by omega⟩
      obtain ⟨n, i1, i2, i3, i4, i5⟩ := ih (fun x hx => h x (by simp [hx])) t (by rw [List.length_append] at hc; omega)
      have hcons : ∀ m, packs ((r :: gs).take (m + 1)) = unitBytes k d ++ packs (gs.take m) := fun m => by unfold packs; rw [List.take_succ_cons, List.flatMap_cons, hU]
      rw [List.take_length_add_append, scanAll_front ⟨h1, h2⟩ (by omega) h4, i2]
      refine ⟨n + 1, by simpa using i1, ?_, ?_, ?_, ?_⟩
      · rw [hcons, List.take_succ_cons, List.length_append]
      · rw [hcons, List.length_append]; omega
      · intro i hi
        rw [hcons, List.length_append]
        cases i with
        | zero => simp [packs]
        | succ i => have := i4 i (by omega); omega
      · intro hi
        rw [hcons, List.length_append]
        have := i5 (by simpa using hi)
        omega
end Go.Proofs.YtabklmkdneoaaaaDoor
