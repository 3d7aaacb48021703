/- Chapter 26, plain: what is packed is parsed; records behind records. -/
import Derived.Test.YtabklmkdneoaaaaDoorGPlain
namespace Go.Proofs.YtabklmkdneoaaaaDoor

theorem scan_move (a b : List UInt8) : ∀ k n, scanR (a ++ b) k (a.length + n) = ((scanR b k n).1, a.length + (scanR b k n).2) := by
  intro k
  induction k with
  | zero => intro n; rfl
  | succ k ih =>
    intro n
    by_cases hn : n < b.length
    · have hb := nextU_back (a := a) hn
      cases hN : nextU b n with
      | no q c =>
        rw [hN] at hb
        rw [scanR_no hb, scanR_no hN]
      | ok u =>
        rw [hN] at hb
        by_cases hp : (parseR u.kind u.data).1 = 0
        · rw [scanR_ok hb (by exact hp), scanR_ok hN hp]
          have h1 := ih u.end_
          rw [Nat.add_comm] at h1
          show (_ :: (scanR (a ++ b) k (u.end_ + a.length)).1, (scanR (a ++ b) k (u.end_ + a.length)).2) = _
          rw [h1]
          rfl
        · rw [scanR_bad hb (by exact hp), scanR_bad hN hp]
    · rw [scanR_no (nextU_end (bs := b) (n := n) (by omega))]
      rw [scanR_no (nextU_end (bs := a ++ b) (n := a.length + n) (by rw [List.length_append]; omega))]
theorem scanR_fuel (bs : List UInt8) : ∀ (k k' n : Nat), bs.length ≤ n + k → bs.length ≤ n + k' → scanR bs k n = scanR bs k' n := by
  intro k
  induction k with
  | zero =>
    intro k' n h h'
    rw [scanR_no (nextU_end (bs := bs) (n := n) (by omega)), scanR_no (nextU_end (bs := bs) (n := n) (by omega))]
  | succ k ih =>
    intro k' n h h'
    cases hN : nextU bs n with
    | no q c => rw [scanR_no hN, scanR_no hN]
    | ok u =>
      have hlt := nextU_ok_lt hN
      have hg := (nextU_grows hN).1
      obtain ⟨m, rfl⟩ : ∃ m, k' = m + 1 := ⟨k' - 1, by omega⟩
      by_cases hp : (parseR u.kind u.data).1 = 0
      · rw [scanR_ok hN hp, scanR_ok hN hp, ih m u.end_ (by omega) (by omega)]
      · rw [scanR_bad hN hp, scanR_bad hN hp]
theorem be_quad' {v : Nat} (h : v < 4294967296) : be (quad v) = v := be_quad h
/-- A record that may be one, as a unit: it is parsed again. -/
theorem pack_parse {r : RecS} (hm : mayR r = true) : ∃ k d, packU r = unitBytes k d ∧ 1 ≤ k ∧ k ≤ 255 ∧ d.length ≤ 9 ∧ parseR k d = (0, r) := by
  obtain ⟨k, s, n, l, c, hr, hk, hs, hn, hl, hc, hkb⟩ := may_nat hm
  have hN : packNo r = 0 := by unfold packNo; rw [if_neg (by rw [hkb]; simp), if_neg (by rw [hm]; simp)]
  have hU : packU r = unitBytes k (recData k s n l c) := by unfold packU; rw [hN, hr]; rfl
  refine ⟨k, recData k s n l c, hU, by omega, by omega, recData_len _ _ _ _ _, ?_⟩
  have hkb' : kindB (k : Int) = true := by rw [hr] at hkb; exact hkb
  have hbs := be_quad hs
  have hbl := be_quad (show l < 4294967296 by omega)
  have key : parseRec (k : Int) (recData k s n l c) = some r := by
    rw [hr] at hm ⊢
    unfold quad at hbs hbl
    rcases hk with rfl | rfl | rfl | rfl
    all_goals
      simp [mayR, sumB, lenB] at hm
      simp [parseRec, recData, quad, hbs, hbl]
      try omega
  unfold parseR
  rw [if_neg (by rw [hkb']; simp), key]
  simp [hm]
theorem scanAll_front {k : Nat} {d : List UInt8} {r : RecS} (hk : 1 ≤ k ∧ k ≤ 255) (hd : d.length ≤ 65536) (hp : parseR k d = (0, r)) (b : List UInt8) : scanAll (unitBytes k d ++ b) = (r :: (scanAll b).1, (unitBytes k d).length + (scanAll b).2) := by
  have hl := unitBytes_len k d hk.1
  have hN : nextU (unitBytes k d ++ b) 0 = .ok ⟨k, d, 0, d.length + 8⟩ := by
    have := nextU_in (bs := unitBytes k d ++ b) (n := 0) (by rw [List.length_append]; omega)
    rw [List.drop_zero, readU_made hk hd] at this
    simpa using this
  unfold scanAll
  obtain ⟨m, hm⟩ : ∃ m, (unitBytes k d ++ b).length = m + 1 := ⟨(unitBytes k d ++ b).length - 1, by rw [List.length_append]; omega⟩
  rw [hm, scanR_ok (n := 0) hN (by show (parseR (k : Int) d).1 = 0; rw [hp])]
  have h1 := scan_move (unitBytes k d) b m 0
  rw [Nat.add_zero, hl] at h1
  show ((parseR (k : Int) d).2 :: (scanR (unitBytes k d ++ b) m (d.length + 8)).1, (scanR (unitBytes k d ++ b) m (d.length + 8)).2) = _
  rw [h1, hp, hl]
  rw [scanR_fuel b m b.length 0 (by rw [List.length_append, hl] at hm; omega) (by omega)]
/-- Records behind records. -/
theorem scan_join (rs : List RecS) (h : ∀ r ∈ rs, mayR r = true) (b : List UInt8) : scanAll (rs.flatMap packU ++ b) = (rs ++ (scanAll b).1, (rs.flatMap packU).length + (scanAll b).2) := by
  induction rs with
  | nil => simp
  | cons r rs ih =>
    obtain ⟨k, d, hU, h1, h2, h3, h4⟩ := pack_parse (h r (by simp))
    have h5 := ih fun x hx => h x (by simp [hx])
    rw [List.flatMap_cons, hU, List.append_assoc, scanAll_front ⟨h1, h2⟩ (by omega) h4, h5]
    simp
    omega
end Go.Proofs.YtabklmkdneoaaaaDoor
