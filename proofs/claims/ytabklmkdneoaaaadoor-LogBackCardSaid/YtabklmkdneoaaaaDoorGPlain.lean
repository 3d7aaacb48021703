/- Chapter 26, plain: what is parsed, packed again; what is scanned, packed again. -/
import Derived.Test.YtabklmkdneoaaaaDoorGD
import Derived.Test.YtabklmkdneoaaaaDoorUBackP
namespace Go.Proofs.YtabklmkdneoaaaaDoor

theorem quad_be (a b c d : UInt8) : quad (be [a, b, c, d]) = [a, b, c, d] := by
  rw [be4]
  have ha := a.toNat_lt
  have hb := b.toNat_lt
  have hc := c.toNat_lt
  have hd := d.toNat_lt
  unfold quad
  have e1 : (a.toNat * 16777216 + b.toNat * 65536 + c.toNat * 256 + d.toNat) / 16777216 = a.toNat := by omega
  have e2 : UInt8.ofNat ((a.toNat * 16777216 + b.toNat * 65536 + c.toNat * 256 + d.toNat) / 65536) = b := by
    apply UInt8.toNat_inj.1
    simp <;> omega
  have e3 : UInt8.ofNat ((a.toNat * 16777216 + b.toNat * 65536 + c.toNat * 256 + d.toNat) / 256) = c := by
    apply UInt8.toNat_inj.1
    simp <;> omega
  have e4 : UInt8.ofNat (a.toNat * 16777216 + b.toNat * 65536 + c.toNat * 256 + d.toNat) = d := by
    apply UInt8.toNat_inj.1
    simp <;> omega
  rw [e1, e2, e3, e4]
  simp
theorem three_be (a b c : UInt8) : three (be [a, b, c]) = [a, b, c] := by
  rw [be3]
  have ha := a.toNat_lt
  have hb := b.toNat_lt
  have hc := c.toNat_lt
  unfold three
  have e1 : (a.toNat * 65536 + b.toNat * 256 + c.toNat) / 65536 = a.toNat := by omega
  have e2 : UInt8.ofNat ((a.toNat * 65536 + b.toNat * 256 + c.toNat) / 256) = b := by
    apply UInt8.toNat_inj.1
    simp <;> omega
  have e3 : UInt8.ofNat (a.toNat * 65536 + b.toNat * 256 + c.toNat) = c := by
    apply UInt8.toNat_inj.1
    simp <;> omega
  rw [e1, e2, e3]
  simp
/-- What is read as a unit is its bytes. -/
theorem readU_bytes {l : List UInt8} {k : Nat} {d : List UInt8} (h : readU l = .unit k d) : 1 ≤ k ∧ k ≤ 255 ∧ d.length ≤ 65536 ∧ ∃ r, l = unitBytes k d ++ r := by
  rcases readU_cases l with h1 | ⟨t, rfl⟩ | ⟨u, x1, x2, x3, r, rfl, h0⟩
  · rw [h1] at h; cases h
  · exact absurd (show ReadR.fill = .unit k d from h) (by intro e; cases e)
  · rw [readU_long h0] at h
    split at h
    · cases h
    · rename_i h1
      split at h
      · cases h
      · rename_i h2
        split at h
        · rename_i h3
          injection h with h4 h5
          subst h4 h5
          have hu : u.toNat ≠ 0 := fun e => h0 (UInt8.toNat_inj.1 (by simpa using e))
          have hl : (r.take (be [x1, x2, x3])).length = be [x1, x2, x3] := by rw [List.length_take]; omega
          refine ⟨by omega, by have := u.toNat_lt; omega, by omega, (r.drop (be [x1, x2, x3])).drop 4, ?_⟩
          have hq : ∃ y0 y1 y2 y3, (r.drop (be [x1, x2, x3])).take 4 = [y0, y1, y2, y3] := by
            have hln : ((r.drop (be [x1, x2, x3])).take 4).length = 4 := by rw [List.length_take, List.length_drop]; omega
            match (r.drop (be [x1, x2, x3])).take 4, hln with
            | [y0, y1, y2, y3], _ => exact ⟨y0, y1, y2, y3, rfl⟩
          obtain ⟨y0, y1, y2, y3, hy⟩ := hq
          unfold unitBytes
          rw [if_neg hu]
          have hhd : unitHd u.toNat (r.take (be [x1, x2, x3])) = u :: x1 :: x2 :: x3 :: r.take (be [x1, x2, x3]) := by
            unfold unitHd
            rw [hl, three_be]
            simp
          rw [hhd, ← h3, hy, quad_be, ← hy]
          simp only [List.cons_append, List.append_assoc, List.take_append_drop]
        · cases h
theorem nextU_bytes {bs : List UInt8} {n : Nat} {u : UnitS} (h : nextU bs n = .ok u) (hk : u.kind ≠ 0) : 1 ≤ u.kind ∧ u.kind ≤ 255 ∧ u.data.length ≤ 65536 ∧ u.end_ = n + (unitBytes u.kind u.data).length ∧ ∃ r, bs.drop n = unitBytes u.kind u.data ++ r := by
  have hn := nextU_ok_lt h
  rw [nextU_in hn] at h
  cases e : readU (bs.drop n) with
  | no c => rw [e] at h; cases h
  | fill => rw [e] at h; injection h with h; subst h; exact absurd rfl hk
  | unit k d =>
    rw [e] at h
    injection h with h
    subst h
    obtain ⟨h1, h2, h3, h4⟩ := readU_bytes e
    exact ⟨h1, h2, h3, by show n + d.length + 8 = n + (unitBytes k d).length; rw [unitBytes_len k d h1]; omega, h4⟩
/-- What is parsed, packed again. -/
theorem parse_pack {k : Nat} {d : List UInt8} {r : RecS} (h : parseR k d = (0, r)) : packNo r = 0 ∧ mayR r = true ∧ packU r = unitBytes k d := by
  unfold parseR at h
  split at h
  · injection h with h1 h2; cases h1
  · rename_i hk
    have hkb : kindB (k : Int) = true := by simpa using hk
    cases e : parseRec k d with
    | none => rw [e] at h; injection h with h1 h2; cases h1
    | some r' =>
      rw [e] at h
      dsimp only at h
      split at h
      · rename_i hm
        injection h with h1 h2
        subst h2
        have hkk : k = 48 ∨ k = 49 ∨ k = 50 ∨ k = 51 := by unfold kindB at hkb; simp at hkb; omega
        have key : r'.kind = k ∧ recBytes r' = d := by
          unfold parseRec at e
          rcases hkk with rfl | rfl | rfl | rfl
          all_goals
            simp at e
            split at e
            · injection e with e
              subst e
              simp [recBytes, recData, quad_be]
            · cases e
        have hno : packNo r' = 0 := by
          unfold packNo
          rw [key.1, hkb, hm]
          simp
        refine ⟨hno, hm, ?_⟩
        unfold packU
        rw [if_pos hno, key.1, key.2]
        rfl
      · injection h with h1 h2; cases h1
/-- What is scanned, packed again, is the beginning of the bytes; there no record begins. -/
theorem scan_again (bs : List UInt8) : ∀ k n, n ≤ bs.length → bs.length ≤ n + k → (∀ r ∈ (scanR bs k n).1, packNo r = 0 ∧ mayR r = true) ∧ (scanR bs k n).2 ≤ bs.length ∧ n ≤ (scanR bs k n).2 ∧ bs.take (scanR bs k n).2 = bs.take n ++ (scanR bs k n).1.flatMap packU ∧ ∀ u, nextU bs (scanR bs k n).2 = .ok u → (parseR u.kind u.data).1 ≠ 0 := by
  intro k
  induction k with
  | zero =>
    intro n h1 h2
    refine ⟨by simp [scanR], h1, Nat.le_refl _, by simp [scanR], fun u hu => ?_⟩
    have : nextU bs n = .no [] 7 := nextU_end (by omega)
    rw [show (scanR bs 0 n).2 = n from rfl, this] at hu
    cases hu
  | succ k ih =>
    intro n h1 h2
    cases hN : nextU bs n with
    | no q c =>
      rw [scanR_no hN]
      refine ⟨by simp, h1, Nat.le_refl _, by simp, fun u hu => ?_⟩
      rw [show (([], n) : List RecS × Nat).2 = n from rfl, hN] at hu
      cases hu
    | ok u =>
      by_cases hp : (parseR u.kind u.data).1 = 0
      · rw [scanR_ok hN hp]
        have hpr : parseR u.kind u.data = (0, (parseR u.kind u.data).2) := by rw [← hp]
        obtain ⟨p1, p2, p3⟩ := parse_pack hpr
        have hk0 : u.kind ≠ 0 := by
          intro e
          rw [e] at hp
          exact absurd hp (by simp [parseR, kindB])
        obtain ⟨_, _, _, hend, r, hr⟩ := nextU_bytes hN hk0
        have hlt := nextU_ok_lt hN
        have he := (nextU_front (b := []) hlt hN).2
        obtain ⟨i1, i2, i3, i4, i5⟩ := ih u.end_ he (by have := (nextU_grows hN).1; omega)
        have hg := (nextU_grows hN).1
        refine ⟨fun x hx => ?_, i2, by dsimp only; omega, ?_, i5⟩
        · rcases List.mem_cons.1 hx with rfl | hx
          · exact ⟨p1, p2⟩
          · exact i1 x hx
        · dsimp only
          rw [i4, List.flatMap_cons, p3, ← List.append_assoc]
          congr 1
          rw [hend]
          have hs : bs = bs.take n ++ (unitBytes u.kind u.data ++ r) := by rw [← hr, List.take_append_drop]
          have hln : (bs.take n).length = n := by rw [List.length_take]; omega
          conv => lhs; rw [hs]
          rw [← List.append_assoc, List.take_append_of_le_length (by rw [List.length_append, hln]; omega)]
          rw [List.take_of_length_le (by rw [List.length_append, hln]; omega)]
      · rw [scanR_bad hN hp]
        refine ⟨by simp, h1, Nat.le_refl _, by simp, fun v hv => ?_⟩
        rw [show (([], n) : List RecS × Nat).2 = n from rfl, hN] at hv
        injection hv with hv
        subst hv
        exact hp
end Go.Proofs.YtabklmkdneoaaaaDoor
