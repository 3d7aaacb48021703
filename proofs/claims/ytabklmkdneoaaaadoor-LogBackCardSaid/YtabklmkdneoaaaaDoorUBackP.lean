/- Units that were made, and cut off: plain. -/
import Derived.Test.YtabklmkdneoaaaaDoorUJoins
import Derived.Test.YtabklmkdneoaaaaDoorULawLong
namespace Go.Proofs.YtabklmkdneoaaaaDoor

abbrev Piece := Nat × List UInt8
def Good (p : Piece) : Prop := p.1 ≤ 255 ∧ (p.1 = 0 → p.2 = []) ∧ p.2.length ≤ 65536
def bytesOf (ps : List Piece) : List UInt8 := ps.flatMap fun p => unitBytes p.1 p.2
def unitsAt : Nat → List Piece → List UnitS
  | _, [] => []
  | n, p :: ps => ⟨p.1, p.2, n, n + (unitBytes p.1 p.2).length⟩ :: unitsAt (n + (unitBytes p.1 p.2).length) ps
theorem unitsAt_len (ps : List Piece) : ∀ n, (unitsAt n ps).length = ps.length := by
  induction ps with
  | nil => intro n; rfl
  | cons p ps ih => intro n; simp [unitsAt, ih]
theorem unitsAt_move (ps : List Piece) : ∀ n L, unitsAt (n + L) ps = (unitsAt n ps).map (moveU L) := by
  induction ps with
  | nil => intro n L; rfl
  | cons p ps ih =>
    intro n L
    simp only [unitsAt, List.map_cons, ← ih]
    rw [show n + L + (unitBytes p.1 p.2).length = n + (unitBytes p.1 p.2).length + L by omega]
    rfl
theorem unitsAt_snoc (ps : List Piece) (p : Piece) : ∀ n, unitsAt n (ps ++ [p]) = unitsAt n ps ++ [⟨p.1, p.2, n + (bytesOf ps).length, n + (bytesOf ps).length + (unitBytes p.1 p.2).length⟩] := by
  induction ps with
  | nil => intro n; simp [unitsAt, bytesOf]
  | cons a ps ih =>
    intro n
    have h := ih (n + (unitBytes a.1 a.2).length)
    simp only [List.cons_append, unitsAt, h]
    have e : (bytesOf (a :: ps)).length = (unitBytes a.1 a.2).length + (bytesOf ps).length := by simp [bytesOf]
    rw [e]
    simp [Nat.add_assoc]
theorem bytesOf_snoc (ps : List Piece) (p : Piece) : bytesOf (ps ++ [p]) = bytesOf ps ++ unitBytes p.1 p.2 := by simp [bytesOf]
theorem unitBytes_pos (k : Nat) (d : List UInt8) : 0 < (unitBytes k d).length := by
  unfold unitBytes
  split
  · simp
  · simp [unitHd]
theorem unitsOf_nil : unitsOf [] = ([], none) := rfl
theorem unitsOf_one {p : Piece} (h : Good p) : unitsOf (unitBytes p.1 p.2) = ([⟨p.1, p.2, 0, (unitBytes p.1 p.2).length⟩], none) := by
  obtain ⟨k, d⟩ := p
  obtain ⟨h1, h2, h3⟩ := h
  dsimp only at *
  by_cases h0 : k = 0
  · subst h0
    obtain rfl := h2 rfl
    rfl
  · have hk : 1 ≤ k := by omega
    have hl := unitBytes_len k d hk
    have hn := nextU_made ⟨hk, h1⟩ h3
    unfold unitsOf
    rw [hl, splitU_ok (n := 0) (by omega) hn, splitU_done (by show _ ≤ d.length + 8; omega)]
/-- Units that were made are told. -/
theorem unitsOf_made (ps : List Piece) (h : ∀ p ∈ ps, Good p) : unitsOf (bytesOf ps) = (unitsAt 0 ps, none) := by
  induction ps with
  | nil => exact unitsOf_nil
  | cons p ps ih =>
    have h1 := unitsOf_one (h p (by simp))
    have h2 := ih fun q hq => h q (by simp [hq])
    have h3 := unitsOf_joins (b := bytesOf ps) h1
    rw [h2] at h3
    show unitsOf (unitBytes p.1 p.2 ++ bytesOf ps) = _
    rw [h3]
    have h4 := unitsAt_move ps 0 (unitBytes p.1 p.2).length
    rw [Nat.zero_add] at h4
    simp only [unitsAt, Nat.zero_add, h4]
    rfl
/-- A unit cut short is none. -/
theorem unitsOf_short {p : Piece} (h : Good p) {r : Nat} (h0 : 0 < r) (hr : r < (unitBytes p.1 p.2).length) : ∃ q, unitsOf ((unitBytes p.1 p.2).take r) = ([], some q) := by
  obtain ⟨k, d⟩ := p
  obtain ⟨h1, h2, h3⟩ := h
  dsimp only at *
  by_cases hk0 : k = 0
  · subst hk0
    simp [unitBytes] at hr
    omega
  · have hk : 1 ≤ k := by omega
    have hl := unitBytes_len k d hk
    have hlt : ((unitBytes k d).take r).length = r := by rw [List.length_take]; omega
    have hm := readU_made (r := []) ⟨hk, h1⟩ h3
    rw [List.append_nil] at hm
    have hno : ∃ c, readU ((unitBytes k d).take r) = .no c := by
      cases e : readU ((unitBytes k d).take r) with
      | no c => exact ⟨c, rfl⟩
      | fill =>
        have := (readU_more (l := (unitBytes k d).take r) (r' := (unitBytes k d).drop r) (by intro c e'; rw [e] at e'; cases e')).1
        rw [List.take_append_drop, hm, e] at this
        cases this
      | unit k' d' =>
        have := readU_more (l := (unitBytes k d).take r) (r' := (unitBytes k d).drop r) (by intro c e'; rw [e] at e'; cases e')
        have h4 := this.2 _ _ e
        rw [List.take_append_drop, hm, e] at this
        have h5 := this.1
        injection h5 with h6 h7
        subst h7
        omega
    obtain ⟨c, hc⟩ := hno
    have hN : nextU ((unitBytes k d).take r) 0 = .no [(unitS, 0)] c := by
      have := nextU_in (bs := (unitBytes k d).take r) (n := 0) (by omega)
      rw [List.drop_zero, hc] at this
      exact this
    obtain ⟨m, rfl⟩ : ∃ m, r = m + 1 := ⟨r - 1, by omega⟩
    refine ⟨([(unitS, 0)], (c : Int)), ?_⟩
    unfold unitsOf
    rw [hlt]
    exact splitU_no (by omega) hN
/-- How many units end at or ahead of a place. -/
def endsLe (cut : Nat) (us : List UnitS) : Nat := (us.takeWhile fun u => decide (u.end_ ≤ cut)).length
theorem unitsAt_mono (ps : List Piece) : ∀ n, ∀ u ∈ unitsAt n ps, n < u.end_ := by
  induction ps with
  | nil => intro n u hu; cases hu
  | cons p ps ih =>
    intro n u hu
    have hp := unitBytes_pos p.1 p.2
    rcases List.mem_cons.1 hu with rfl | hu
    · show n < n + _; omega
    · have := ih _ u hu; omega
/-- Cut off anywhere: the units that are whole; an error, unless the cut is at an end. -/
theorem unitsOf_cut (ps : List Piece) (h : ∀ p ∈ ps, Good p) : ∀ cut, cut ≤ (bytesOf ps).length → ∃ n er, n ≤ ps.length ∧ unitsOf ((bytesOf ps).take cut) = ((unitsAt 0 ps).take n, er) ∧
    (∀ i u, i < n → (unitsAt 0 ps)[i]? = some u → u.end_ ≤ cut) ∧ (∀ u, (unitsAt 0 ps)[n]? = some u → cut < u.end_) ∧
    (er = none ↔ (n = 0 ∧ cut = 0) ∨ ∃ u, 0 < n ∧ (unitsAt 0 ps)[n - 1]? = some u ∧ u.end_ = cut) := by
  induction ps with
  | nil =>
    intro cut hc
    have : cut = 0 := by simpa [bytesOf] using hc
    subst this
    exact ⟨0, none, Nat.le_refl _, rfl, (fun i u hi => by omega), (fun u hu => by simp [unitsAt] at hu), ⟨fun _ => .inl ⟨rfl, rfl⟩, fun _ => rfl⟩⟩
  | cons p ps ih =>
    intro cut hc
    have hb : bytesOf (p :: ps) = unitBytes p.1 p.2 ++ bytesOf ps := rfl
    have hp := unitBytes_pos p.1 p.2
    have h1 := unitsOf_one (h p (by simp))
    have h4 := unitsAt_move ps 0 (unitBytes p.1 p.2).length
    rw [Nat.zero_add] at h4
    have hu : unitsAt 0 (p :: ps) = ⟨p.1, p.2, 0, (unitBytes p.1 p.2).length⟩ :: (unitsAt 0 ps).map (moveU (unitBytes p.1 p.2).length) := by
      simp only [unitsAt, Nat.zero_add, h4]
    rw [hb] at hc ⊢
    rw [hu]
    by_cases hlt : cut < (unitBytes p.1 p.2).length
    · rw [List.take_append_of_le_length (by omega)]
      rcases Nat.eq_zero_or_pos cut with rfl | h0
      · refine ⟨0, none, by omega, rfl, (fun i u hi => by omega), (fun u hu => ?_), ⟨fun _ => .inl ⟨rfl, rfl⟩, fun _ => rfl⟩⟩
        simp at hu
        subst hu
        exact hp
      · obtain ⟨q, hq⟩ := unitsOf_short (h p (by simp)) h0 hlt
        refine ⟨0, some q, by omega, hq, (fun i u hi => by omega), (fun u hu => ?_), ⟨(fun e => by cases e), (fun e => ?_)⟩⟩
        · simp at hu
          subst hu
          exact hlt
        · rcases e with ⟨_, e⟩ | ⟨u, e, _⟩ <;> omega
    · obtain ⟨r, rfl⟩ : ∃ r, cut = (unitBytes p.1 p.2).length + r := ⟨cut - (unitBytes p.1 p.2).length, by omega⟩
      obtain ⟨n, er, hn, hu1, hu2, hu3, hu4⟩ := ih (fun q hq => h q (by simp [hq])) r (by rw [List.length_append] at hc; omega)
      rw [List.take_length_add_append]
      have h3 := unitsOf_joins (b := (bytesOf ps).take r) h1
      rw [hu1] at h3
      refine ⟨n + 1, moveE (unitBytes p.1 p.2).length er, by simpa using hn, ?_, ?_, ?_, ?_⟩
      · rw [h3]
        simp [List.map_take]
      · intro i u hi hu
        cases i with
        | zero =>
          simp at hu
          subst hu
          show _ ≤ _
          dsimp only
          omega
        | succ i =>
          rw [List.getElem?_cons_succ, List.getElem?_map] at hu
          obtain ⟨v, hv, rfl⟩ := Option.map_eq_some_iff.1 hu
          have := hu2 i v (by omega) hv
          show v.end_ + _ ≤ _
          omega
      · intro u hu
        rw [List.getElem?_cons_succ, List.getElem?_map] at hu
        obtain ⟨v, hv, rfl⟩ := Option.map_eq_some_iff.1 hu
        have := hu3 v hv
        show _ < v.end_ + _
        omega
      · have hmE : moveE (unitBytes p.1 p.2).length er = none ↔ er = none := by
          cases er with
          | none => simp [moveE]
          | some q => simp [moveE]
        rw [hmE, hu4]
        constructor
        · rintro (⟨rfl, rfl⟩ | ⟨u, hn0, hu, rfl⟩)
          · exact .inr ⟨_, by omega, rfl, rfl⟩
          · refine .inr ⟨moveU (unitBytes p.1 p.2).length u, by omega, ?_, ?_⟩
            · rw [show n + 1 - 1 = (n - 1) + 1 by omega, List.getElem?_cons_succ, List.getElem?_map, hu]
              rfl
            · show u.end_ + _ = _
              omega
        · rintro (⟨h5, _⟩ | ⟨u, _, hu, he⟩)
          · omega
          · rw [Nat.add_sub_cancel] at hu
            cases n with
            | zero =>
              simp at hu
              subst hu
              dsimp only at he
              exact .inl ⟨rfl, by omega⟩
            | succ n =>
              rw [List.getElem?_cons_succ, List.getElem?_map] at hu
              obtain ⟨v, hv, rfl⟩ := Option.map_eq_some_iff.1 hu
              have he' : v.end_ + (unitBytes p.1 p.2).length = (unitBytes p.1 p.2).length + r := he
              exact .inr ⟨v, by omega, by rw [Nat.add_sub_cancel]; exact hv, by omega⟩
end Go.Proofs.YtabklmkdneoaaaaDoor
