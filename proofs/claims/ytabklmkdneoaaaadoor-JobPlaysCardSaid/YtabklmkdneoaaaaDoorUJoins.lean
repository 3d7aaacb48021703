/- Units behind units, plain. -/
import Derived.Test.YtabklmkdneoaaaaDoorUnitsSame
namespace Go.Proofs.YtabklmkdneoaaaaDoor

theorem readU_cases (l : List UInt8) : readU l = .no 1 ∨ (∃ t, l = 0 :: t) ∨ ∃ u x1 x2 x3 r, l = u :: x1 :: x2 :: x3 :: r ∧ u ≠ 0 := by
  match l with
  | [] => exact .inl rfl
  | u :: t =>
    by_cases h0 : u = 0
    · exact .inr (.inl ⟨t, by rw [h0]⟩)
    · match t with
      | [] => exact .inl (readU_short h0 (by simp))
      | [_] => exact .inl (readU_short h0 (by simp))
      | [_, _] => exact .inl (readU_short h0 (by simp))
      | x1 :: x2 :: x3 :: r => exact .inr (.inr ⟨u, x1, x2, x3, r, rfl, h0⟩)
/-- What is read whole is read the same with more bytes behind it. -/
theorem readU_more {l r' : List UInt8} (h : ∀ c, readU l ≠ .no c) : readU (l ++ r') = readU l ∧ ∀ k d, readU l = .unit k d → d.length + 8 ≤ l.length := by
  rcases readU_cases l with h1 | ⟨t, rfl⟩ | ⟨u, x1, x2, x3, r, rfl, h0⟩
  · exact absurd h1 (h 1)
  · refine ⟨rfl, fun k d e => ?_⟩
    exact absurd (show ReadR.fill = .unit k d from e) (by intro e; cases e)
  · have e1 := readU_long (u := u) (x1 := x1) (x2 := x2) (x3 := x3) (r := r) h0
    have e2 := readU_long (u := u) (x1 := x1) (x2 := x2) (x3 := x3) (r := r ++ r') h0
    by_cases h1 : 65536 < be [x1, x2, x3]
    · rw [if_pos h1] at e1; exact absurd e1 (h 5)
    · rw [if_neg h1] at e1 e2
      by_cases h2 : r.length < be [x1, x2, x3] + 4
      · rw [if_pos h2] at e1; exact absurd e1 (h 1)
      · rw [if_neg h2] at e1
        rw [if_neg (by simp; omega)] at e2
        rw [List.drop_append_of_le_length (by omega), List.take_append_of_le_length (by rw [List.length_drop]; omega), List.take_append_of_le_length (by omega)] at e2
        refine ⟨?_, fun k d e => ?_⟩
        · rw [e1]; exact e2
        · rw [e1] at e
          split at e
          · injection e with e3 e4
            subst e4
            simp
            omega
          · cases e
theorem nextU_in {bs : List UInt8} {n : Nat} (h : n < bs.length) : nextU bs n = match readU (bs.drop n) with
    | .no c => .no [(unitS, (n : Int))] c
    | .fill => .ok ⟨0, [], n, n + 1⟩
    | .unit k d => .ok ⟨k, d, n, n + d.length + 8⟩ := by
  unfold nextU
  rw [if_neg (by omega)]
  rfl
def moveU (L : Nat) (u : UnitS) : UnitS := ⟨u.kind, u.data, u.at_ + L, u.end_ + L⟩
def moveE (L : Nat) : Option (PathS × Int) → Option (PathS × Int)
  | none => none
  | some (q, c) => some (q.map fun s => (s.1, s.2 + L), c)
theorem nextU_front {a b : List UInt8} {n : Nat} {u : UnitS} (hn : n < a.length) (h : nextU a n = .ok u) : nextU (a ++ b) n = .ok u ∧ u.end_ ≤ a.length := by
  have hd : (a ++ b).drop n = a.drop n ++ b := List.drop_append_of_le_length (by omega)
  have hl : (a.drop n).length = a.length - n := List.length_drop ..
  rw [nextU_in hn] at h
  rw [nextU_in (show n < (a ++ b).length by simp; omega), hd]
  have hm := readU_more (l := a.drop n) (r' := b) (by intro c e; rw [e] at h; cases h)
  rw [hm.1]
  refine ⟨h, ?_⟩
  cases e : readU (a.drop n) with
  | no c => rw [e] at h; cases h
  | fill => rw [e] at h; injection h with h; subst h; show n + 1 ≤ _; omega
  | unit k d => rw [e] at h; injection h with h; subst h; have := hm.2 k d e; show n + d.length + 8 ≤ _; omega
theorem nextU_back {a b : List UInt8} {n : Nat} (hn : n < b.length) : nextU (a ++ b) (a.length + n : Nat) = match nextU b n with
    | .no q c => .no (q.map fun s => (s.1, s.2 + (a.length : Int))) c
    | .ok u => .ok (moveU a.length u) := by
  rw [nextU_in hn, nextU_in (show a.length + n < (a ++ b).length by simp; omega)]
  have hd : (a ++ b).drop (a.length + n) = b.drop n := by rw [← List.drop_drop, List.drop_left]
  rw [hd]
  cases readU (b.drop n) with
  | no c => simp; omega
  | fill => simp [moveU]; omega
  | unit k d => simp [moveU]; omega
theorem splitU_fuel (bs : List UInt8) : ∀ (k k' n : Nat), bs.length ≤ n + k → bs.length ≤ n + k' → splitU bs k n = splitU bs k' n := by
  intro k
  induction k with
  | zero => intro k' n h h'; rw [splitU_done (by omega), splitU_done (by omega)]
  | succ k ih =>
    intro k' n h h'
    by_cases hn : n < bs.length
    · obtain ⟨m, rfl⟩ : ∃ m, k' = m + 1 := ⟨k' - 1, by omega⟩
      cases hN : nextU bs n with
      | no q c => rw [splitU_no hn hN, splitU_no hn hN]
      | ok u =>
        have := (nextU_grows hN).1
        rw [splitU_ok hn hN, splitU_ok hn hN, ih m u.end_ (by omega) (by omega)]
    · rw [splitU_done (by omega), splitU_done (by omega)]
theorem splitU_back (a b : List UInt8) : ∀ (k n : Nat), splitU (a ++ b) k (a.length + n) = ((splitU b k n).1.map (moveU a.length), moveE a.length (splitU b k n).2) := by
  intro k
  induction k with
  | zero => intro n; rfl
  | succ k ih =>
    intro n
    by_cases hn : n < b.length
    · have hb := nextU_back (a := a) hn
      have hn' : a.length + n < (a ++ b).length := by simp; omega
      cases hN : nextU b n with
      | no q c =>
        rw [hN] at hb
        rw [splitU_no hn' hb, splitU_no hn hN]
        rfl
      | ok u =>
        rw [hN] at hb
        rw [splitU_ok hn' hb, splitU_ok hn hN]
        have := ih u.end_
        rw [Nat.add_comm] at this
        show (_ :: (splitU (a ++ b) k (u.end_ + a.length)).1, (splitU (a ++ b) k (u.end_ + a.length)).2) = _
        rw [this]
        rfl
    · rw [splitU_done (by simp; omega), splitU_done (by omega)]
      rfl
theorem splitU_front (a b : List UInt8) : ∀ (k n : Nat) (us : List UnitS), n ≤ a.length → a.length ≤ n + k → splitU a k n = (us, none) → splitU (a ++ b) (k + b.length) n = (us ++ (splitU (a ++ b) b.length a.length).1, (splitU (a ++ b) b.length a.length).2) := by
  intro k
  induction k with
  | zero =>
    intro n us h1 h2 h
    obtain rfl : n = a.length := by omega
    obtain rfl : us = [] := (congrArg Prod.fst h).symm
    rw [Nat.zero_add]
    rfl
  | succ k ih =>
    intro n us h1 h2 h
    by_cases hn : n < a.length
    · cases hN : nextU a n with
      | no q c => rw [splitU_no hn hN] at h; injection h with h3 h4; cases h4
      | ok u =>
        rw [splitU_ok hn hN] at h
        injection h with h3 h4
        obtain ⟨h5, h6⟩ := nextU_front (b := b) hn hN
        have hg := (nextU_grows hN).1
        have hr := ih u.end_ (splitU a k u.end_).1 h6 (by omega) (by rw [← h4])
        rw [show k + 1 + b.length = (k + b.length) + 1 by omega, splitU_ok (by simp; omega) h5, hr, ← h3]
        rfl
    · obtain rfl : n = a.length := by omega
      rw [splitU_done (Nat.le_refl _)] at h
      injection h with h3 h4
      subst h3
      rw [splitU_fuel (a ++ b) (k + 1 + b.length) b.length a.length (by rw [List.length_append]; omega) (by rw [List.length_append]; omega)]
      rfl
/-- Units behind units. -/
theorem unitsOf_joins {a b : List UInt8} {us : List UnitS} (h : unitsOf a = (us, none)) : unitsOf (a ++ b) = (us ++ (unitsOf b).1.map (moveU a.length), moveE a.length (unitsOf b).2) := by
  have h1 := splitU_front a b a.length 0 us (Nat.zero_le _) (by omega) h
  have h2 := splitU_back a b b.length 0
  unfold unitsOf
  rw [List.length_append, h1]
  rw [Nat.add_zero] at h2
  rw [h2]
end Go.Proofs.YtabklmkdneoaaaaDoor
