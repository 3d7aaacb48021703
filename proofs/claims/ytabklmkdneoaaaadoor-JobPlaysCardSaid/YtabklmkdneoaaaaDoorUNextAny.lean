/- Next, the program's and the document's: what each answers, whatever the bytes. -/
import Derived.Test.YtabklmkdneoaaaaDoorURNext3
namespace Go.Proofs.YtabklmkdneoaaaaDoor
open Go.RowKit

inductive NextR where
  | no (q : PathS) (c : Int)
  | ok (u : UnitS)
def nextU (bs : List UInt8) (a : Int) : NextR :=
  if a < 0 ∨ (bs.length : Int) ≤ a then .no [] 7 else
    match readU (bs.drop a.toNat) with
    | .no c => .no [(unitS, a)] c
    | .fill => .ok ⟨0, [], a.toNat, a.toNat + 1⟩
    | .unit k d => .ok ⟨k, d, a.toNat, a.toNat + d.length + 8⟩
theorem readU_long {u x1 x2 x3 : UInt8} {r : List UInt8} (h0 : u ≠ 0) :
    readU (u :: x1 :: x2 :: x3 :: r) = if 65536 < be [x1, x2, x3] then .no 5 else if r.length < be [x1, x2, x3] + 4 then .no 1 else if be ((r.drop (be [x1, x2, x3])).take 4) = sumOf (u :: x1 :: x2 :: x3 :: r.take (be [x1, x2, x3])) then .unit u.toNat (r.take (be [x1, x2, x3])) else .no 4 := by
  unfold readU
  split
  · rename_i h
    injection h with h
    exact absurd h h0
  · rename_i h
    injection h with h1 h
    injection h with h2 h
    injection h with h3 h
    injection h with h4 h
    subst h1 h2 h3 h4 h
    rfl
  · rename_i h1 h2
    exact absurd rfl (h2 _ _ _ _ _)
theorem readU_short {u : UInt8} {t : List UInt8} (h0 : u ≠ 0) (ht : t.length < 3) : readU (u :: t) = .no 1 := by
  unfold readU
  split
  · rename_i h
    injection h with h
    exact absurd h h0
  · rename_i h
    injection h with h1 h
    rw [h] at ht
    simp at ht
    omega
  · rfl
def AnyUnit (u : UnitS) (w : World) (e : Ending) (w' : World) : Prop :=
  ∃ d, e = .returned (.tuple #[.agg #[.int .i64 u.kind, d, .int .i64 u.at_, .int .i64 u.end_], .nilIface]) ∧ w'.ownsRow w.heap.size 5 1 d u.data.length (u.data.map byteV) ∧ Below w.heap.size w w'
def RAnyUnit (u : UnitS) (w : World) (e : Ending) (w' : World) : Prop :=
  ∃ d, e = .returned (.tuple #[.agg #[.int .i64 u.kind, d, .int .i64 u.at_, .int .i64 u.end_], .agg #[.int .i64 0, .slice none 0 0]]) ∧ w'.ownsRow w.heap.size 5 1 d u.data.length (u.data.map byteV) ∧ Below w.heap.size w w'
def NextRes (bs : List UInt8) (a : Int) (w : World) (e : Ending) (w' : World) : Prop :=
  match nextU bs a with
  | .no q c => NoUnit c q w e w'
  | .ok u => AnyUnit u w e w'
def RNextRes (bs : List UInt8) (a : Int) (w : World) (e : Ending) (w' : World) : Prop :=
  match nextU bs a with
  | .no q c => RNoUnit c q w e w'
  | .ok u => RAnyUnit u w e w'
/-- The cases of Next, once for both. -/
theorem next_cases (bs : List UInt8) (a : Int) :
    ((a < 0 ∨ (bs.length : Int) ≤ a) ∧ nextU bs a = .no [] 7) ∨
    ∃ k : Nat, a = k ∧ k < bs.length ∧
      ((bs[k]? = some 0 ∧ nextU bs a = .ok ⟨0, [], k, k + 1⟩) ∨
       ∃ u, bs[k]? = some u ∧ u ≠ 0 ∧
        ((bs.length - k < 4 ∧ nextU bs a = .no [(unitS, a)] 1) ∨
         ∃ x1 x2 x3 r, bs.drop k = u :: x1 :: x2 :: x3 :: r ∧
          ((65536 < be [x1, x2, x3] ∧ nextU bs a = .no [(unitS, a)] 5) ∨
           (be [x1, x2, x3] ≤ 65536 ∧ r.length < be [x1, x2, x3] + 4 ∧ nextU bs a = .no [(unitS, a)] 1) ∨
           (be [x1, x2, x3] ≤ 65536 ∧ ∃ y0 y1 y2 y3 r', r.drop (be [x1, x2, x3]) = y0 :: y1 :: y2 :: y3 :: r' ∧
             ((be [y0, y1, y2, y3] ≠ sumOf (u :: x1 :: x2 :: x3 :: r.take (be [x1, x2, x3])) ∧ nextU bs a = .no [(unitS, a)] 4) ∨
              (be [y0, y1, y2, y3] = sumOf (u :: x1 :: x2 :: x3 :: r.take (be [x1, x2, x3])) ∧ nextU bs a = .ok ⟨u.toNat, r.take (be [x1, x2, x3]), k, k + be [x1, x2, x3] + 8⟩)))))) := by
  by_cases ha : a < 0 ∨ (bs.length : Int) ≤ a
  · exact .inl ⟨ha, by unfold nextU; rw [if_pos ha]⟩
  · refine .inr ⟨a.toNat, by omega, by omega, ?_⟩
    obtain ⟨k, rfl⟩ := Int.eq_ofNat_of_zero_le (show 0 ≤ a by omega)
    have hk : k < bs.length := by omega
    have hN : nextU bs (k : Int) = match readU (bs.drop k) with
      | .no c => .no [(unitS, (k : Int))] c
      | .fill => .ok ⟨0, [], k, k + 1⟩
      | .unit kk d => .ok ⟨kk, d, k, k + d.length + 8⟩ := by
      unfold nextU
      rw [if_neg ha]
      rfl
    simp only [Int.toNat_natCast]
    obtain ⟨u, t, hd⟩ : ∃ u t, bs.drop k = u :: t := by
      cases h : bs.drop k with
      | nil =>
        have := congrArg List.length h
        simp at this
        omega
      | cons u t => exact ⟨u, t, rfl⟩
    have hu : bs[k]? = some u := by
      have := congrArg (·[0]?) hd
      simpa using this
    have hlen : bs.length - k = t.length + 1 := by
      have := congrArg List.length hd
      simpa using this
    rw [hd] at hN
    by_cases h0 : u = 0
    · subst h0
      exact .inl ⟨hu, by rw [hN]; rfl⟩
    · refine .inr ⟨u, hu, h0, ?_⟩
      by_cases hs : t.length < 3
      · exact .inl ⟨by omega, by rw [hN, readU_short h0 hs]; rfl⟩
      · obtain ⟨x1, x2, x3, r, rfl⟩ : ∃ x1 x2 x3 r, t = x1 :: x2 :: x3 :: r := by
          match t, hs with
          | x1 :: x2 :: x3 :: r, _ => exact ⟨_, _, _, _, rfl⟩
          | [], h => simp at h
          | [_], h => simp at h
          | [_, _], h => simp at h
        refine .inr ⟨x1, x2, x3, r, hd, ?_⟩
        rw [readU_long h0] at hN
        by_cases h1 : 65536 < be [x1, x2, x3]
        · exact .inl ⟨h1, by rw [hN, if_pos h1]; rfl⟩
        · rw [if_neg h1] at hN
          by_cases h2 : r.length < be [x1, x2, x3] + 4
          · exact .inr (.inl ⟨by omega, h2, by rw [hN, if_pos h2]; rfl⟩)
          · rw [if_neg h2] at hN
            refine .inr (.inr ⟨by omega, ?_⟩)
            have hdl : (r.drop (be [x1, x2, x3])).length ≥ 4 := by rw [List.length_drop]; omega
            obtain ⟨y0, y1, y2, y3, r', hy⟩ : ∃ y0 y1 y2 y3 r', r.drop (be [x1, x2, x3]) = y0 :: y1 :: y2 :: y3 :: r' := by
              generalize r.drop (be [x1, x2, x3]) = z at hdl
              match z, hdl with
              | y0 :: y1 :: y2 :: y3 :: r', _ => exact ⟨_, _, _, _, _, rfl⟩
              | [], h => simp at h
              | [_], h => simp at h
              | [_, _], h => simp at h
              | [_, _, _], h => simp at h
            refine ⟨y0, y1, y2, y3, r', hy, ?_⟩
            rw [hy] at hN
            have ht : (y0 :: y1 :: y2 :: y3 :: r').take 4 = [y0, y1, y2, y3] := rfl
            rw [ht] at hN
            by_cases h3 : be [y0, y1, y2, y3] = sumOf (u :: x1 :: x2 :: x3 :: r.take (be [x1, x2, x3]))
            · refine .inr ⟨h3, ?_⟩
              rw [hN, if_pos h3]
              have hl : (r.take (be [x1, x2, x3])).length = be [x1, x2, x3] := by rw [List.length_take]; omega
              show NextR.ok ⟨_, _, _, k + (r.take (be [x1, x2, x3])).length + 8⟩ = _
              rw [hl]
            · exact .inl ⟨h3, by rw [hN, if_neg h3]; rfl⟩
theorem next_any (x : Value) (bs : List UInt8) (a : Int) (w : World) (hx : Byt w x bs) (hl : bs.length ≤ 1000000) :
    Calls Tryd.prog 25 #[x, .int .i64 a] w (NextRes bs a w) := by
  have hres : NextRes bs a w = fun e w' => match nextU bs a with
    | .no q c => NoUnit c q w e w'
    | .ok u => AnyUnit u w e w' := rfl
  rw [hres]
  have own : ∀ u e w', OkUnit u w e w' → AnyUnit u w e w' := fun u e w' ⟨g, cap, h1, h2, h3⟩ => ⟨_, h1, h2, h3⟩
  rcases next_cases bs a with ⟨h, hN⟩ | ⟨k, rfl, hk, h⟩
  · rw [hN]; exact next_none x bs a w hx h
  · rcases h with ⟨hu, hN⟩ | ⟨u, hu, h0, h⟩
    · rw [hN]
      refine (next_fill x bs k w hx hk hu hl).mono ?_
      rintro e w' ⟨rfl, hb⟩
      exact ⟨.slice none 0 0, rfl, World.ownsRow_nil _ _ _ _, hb⟩
    · rcases h with ⟨hs, hN⟩ | ⟨x1, x2, x3, r, hr, h⟩
      · rw [hN]; exact next_short x bs k u w hx hk hu h0 hs
      · rcases h with ⟨h1, hN⟩ | ⟨h1, h2, hN⟩ | ⟨h1, y0, y1, y2, y3, r', hy, h⟩
        · rw [hN]; exact next_long x bs r k u x1 x2 x3 w hx hk hr h0 hl h1
        · rw [hN]; exact next_short2 x bs r k u x1 x2 x3 w hx hk hr h0 hl h1 h2
        · rcases h with ⟨h3, hN⟩ | ⟨h3, hN⟩
          · rw [hN]; exact next_sum x bs r r' k u x1 x2 x3 y0 y1 y2 y3 w hx hk hr h0 hl h1 hy h3
          · rw [hN]; exact (next_ok x bs r r' k u x1 x2 x3 y0 y1 y2 y3 w hx hk hr h0 hl h1 hy h3).mono (own _)
theorem rnext_any (x : Value) (bs : List UInt8) (a : Int) (w : World) (hx : Byt w x bs) (hl : bs.length ≤ 1000000) :
    Calls Tryd.prog 28 #[x, .int .i64 a] w (RNextRes bs a w) := by
  have hres : RNextRes bs a w = fun e w' => match nextU bs a with
    | .no q c => RNoUnit c q w e w'
    | .ok u => RAnyUnit u w e w' := rfl
  rw [hres]
  have own : ∀ u e w', ROkUnit u w e w' → RAnyUnit u w e w' := fun u e w' ⟨g, cap, h1, h2, h3⟩ => ⟨_, h1, h2, h3⟩
  rcases next_cases bs a with ⟨h, hN⟩ | ⟨k, rfl, hk, h⟩
  · rw [hN]; exact rnext_none x bs a w hx h
  · rcases h with ⟨hu, hN⟩ | ⟨u, hu, h0, h⟩
    · rw [hN]
      refine (rnext_fill x bs k w hx hk hu hl).mono ?_
      rintro e w' ⟨rfl, hb⟩
      exact ⟨.slice none 0 0, rfl, World.ownsRow_nil _ _ _ _, hb⟩
    · rcases h with ⟨hs, hN⟩ | ⟨x1, x2, x3, r, hr, h⟩
      · rw [hN]; exact rnext_short x bs k u w hx hk hu h0 hs
      · rcases h with ⟨h1, hN⟩ | ⟨h1, h2, hN⟩ | ⟨h1, y0, y1, y2, y3, r', hy, h⟩
        · rw [hN]; exact rnext_long x bs r k u x1 x2 x3 w hx hk hr h0 hl h1
        · rw [hN]; exact rnext_short2 x bs r k u x1 x2 x3 w hx hk hr h0 hl h1 h2
        · rcases h with ⟨h3, hN⟩ | ⟨h3, hN⟩
          · rw [hN]; exact rnext_sum x bs r r' k u x1 x2 x3 y0 y1 y2 y3 w hx hk hr h0 hl h1 hy h3
          · rw [hN]; exact (rnext_ok x bs r r' k u x1 x2 x3 y0 y1 y2 y3 w hx hk hr h0 hl h1 hy h3).mono (own _)
end Go.Proofs.YtabklmkdneoaaaaDoor
