/- Parts: XCoefL. -/
import Derived.Test.YtkkgpdejmcpcpaaGreatDoorM02
import Derived.Test.YtkkgpdejmcpcpaaGreatDoorM08
/- Chapter 14: lists of numbers: a function value that tells; IndexFunc, ContainsFunc, Within, Zero, Check; shifts. -/
namespace Go.Proofs.YtkkgpdejmcpcpaaGreatDoor
open Go.RowKit

theorem and_one_gen (x : Int) : bits BinOp.and IntKind.i64 x 1 = x % 2 := by
  unfold bits
  show IntKind.i64.wrap ((BitVec.ofInt 64 x &&& BitVec.ofInt 64 1).toNat : Int) = x % 2
  have h : (BitVec.ofInt 64 x &&& BitVec.ofInt 64 1).toNat = (x % 2).toNat := by
    rw [BitVec.toNat_and, BitVec.toNat_ofInt, show (BitVec.ofInt 64 1).toNat = 1 from rfl, Nat.and_one_is_mod]
    have : (0 : Int) ≤ x % (2 ^ 64 : Nat) := Int.emod_nonneg _ (by decide)
    omega
  rw [h]
  have hc : x % 2 = 0 ∨ x % 2 = 1 := by omega
  rcases hc with h | h <;> rw [h] <;> rfl
theorem wrap_pow (z : Nat) (hk : z ≤ 12) : IntKind.i64.wrap (2 * 2 ^ z) = ((2 ^ (z + 1) : Nat) : Int) := by
  have h : z = 0 ∨ z = 1 ∨ z = 2 ∨ z = 3 ∨ z = 4 ∨ z = 5 ∨ z = 6 ∨ z = 7 ∨ z = 8 ∨ z = 9 ∨ z = 10 ∨ z = 11 ∨ z = 12 := by omega
  rcases h with rfl | rfl | rfl | rfl | rfl | rfl | rfl | rfl | rfl | rfl | rfl | rfl | rfl <;> rfl
theorem wrap_pow1 (z : Nat) (hk : z ≤ 12) : IntKind.i64.wrap (1 * 2 ^ (z + 1)) = ((2 ^ (z + 1) : Nat) : Int) := by
  have h : z = 0 ∨ z = 1 ∨ z = 2 ∨ z = 3 ∨ z = 4 ∨ z = 5 ∨ z = 6 ∨ z = 7 ∨ z = 8 ∨ z = 9 ∨ z = 10 ∨ z = 11 ∨ z = 12 := by omega
  rcases h with rfl | rfl | rfl | rfl | rfl | rfl | rfl | rfl | rfl | rfl | rfl | rfl | rfl <;> rfl
/-- A function value that tells p and changes nothing. -/
structure Tells (g : FuncId) (p : Int → Bool) : Prop where
  call : ∀ (x : Value) (w : World), (callFunc g #[x]).run Tryz.prog w = .ok (.enter g #[x]) w
  ans : ∀ (v : Int) (w : World), Calls Tryz.prog g #[.int .i64 v] w fun e w' => e = .returned (.bool (p v)) ∧ w' = w
set_option maxRecDepth 100000 in
set_option maxHeartbeats 1000000 in
theorem index_any (g : FuncId) (p : Int → Bool) (ht : Tells g p) (x : Value) (l : List Int) (w : World) (hx : Nums w x l) (hl : l.length ≤ 1000000000) :
    Calls Tryz.prog 93 #[x, .func (.func g) #[] #[]] w fun e w' => ∃ m : Int, e = .returned (.int .i64 m) ∧ w' = w ∧ decide (0 ≤ m) = l.any p := by
  obtain ⟨A, c, rfl, _⟩ := hx.form
  have X := hid (And.intro hx hl)
  have hcf := ht.call
  have HA := hid ht.ans
  clear hx hl ht
  go_enter Tryz.func93, Tryz.ntmps93
  go_wp2_with fail
  go_loopg [8] l.length (fun k iv wr => ∃ i : Nat, i + k = l.length ∧ iv = .int .i64 i ∧ (∀ j v, j < i → l[j]? = some v → p v = false) ∧ w = wr)
  case atStart => exact ⟨0, by omega, rfl, fun j v hj => by omega, rfl⟩
  case round =>
    obtain ⟨i, hi, rfl, hall, rfl⟩ := hrel
    have hl := X.out.2
    by_cases hlt : i < l.length
    · obtain ⟨v, hv⟩ : ∃ v, l[i]? = some v := ⟨l[i], List.getElem?_eq_getElem hlt⟩
      obtain ⟨b0, o0, rfl, _, p0⟩ := X.out.1.at_ hv
      have k0 : (0 : Int) ≤ (i : Int) := by omega
      have k1 : (i : Int) < (l.length : Int) := by omega
      have d1 : decide ((i : Int) < (l.length : Int)) = true := by simp; omega
      have d2 : decide (i < l.length) = true := by simp; omega
      have FF := hid (And.intro hi (And.intro hlt (And.intro hall hv)))
      clear hi hlt hall hv
      go_wp2_with fail
      refine (HA.out v _).mono ?_
      rintro e w2 ⟨rfl, rfl⟩
      cases hq : p v with
      | true =>
        have HQ := hid hq
        clear hq
        go_wp2_with fail
        go_ret
        refine ⟨(i : Int), rfl, rfl, ?_⟩
        have h1 : l.any p = true := List.any_eq_true.2 ⟨v, List.mem_of_getElem? FF.out.2.2.2, HQ.out⟩
        rw [h1]
        simp
      | false =>
        have HQ := hid hq
        clear hq
        go_wp2_with fail
        go_roundg (gk - 1)
        case measure => have := FF.out.1; have := FF.out.2.1; omega
        case rel =>
          refine ⟨i + 1, by have := FF.out.1; have := FF.out.2.1; omega, by go_num, ?_, rfl⟩
          intro j u hj hu
          rcases Nat.lt_or_ge j i with h1 | h1
          · exact FF.out.2.2.1 j u h1 hu
          · obtain rfl : j = i := by omega
            rw [FF.out.2.2.2] at hu
            injection hu with hu
            subst hu
            exact HQ.out
    · obtain rfl : i = l.length := by omega
      have d1 : decide ((l.length : Int) < (l.length : Int)) = false := by simp
      have HA2 := hid hall
      clear hall hlt hi
      go_wp2_with fail
      go_ret
      refine ⟨-1, rfl, rfl, ?_⟩
      have h1 : l.any p = false := by
        rw [Bool.eq_false_iff]
        intro h
        obtain ⟨v, hv, hp⟩ := List.any_eq_true.1 h
        obtain ⟨j, hj⟩ := List.mem_iff_getElem?.1 hv
        rw [HA2.out j v (List.getElem?_eq_some_iff.1 hj).1 hj] at hp
        exact Bool.noConfusion hp
      rw [h1]
      rfl
set_option maxRecDepth 100000 in
theorem contains_any (g : FuncId) (p : Int → Bool) (ht : Tells g p) (x : Value) (l : List Int) (w : World) (hx : Nums w x l) (hl : l.length ≤ 1000000000) :
    Calls Tryz.prog 78 #[x, .func (.func g) #[] #[]] w fun e w' => e = .returned (.bool (l.any p)) ∧ w' = w := by
  have H := hid (index_any g p ht x l w hx hl)
  clear hx hl ht
  go_enter Tryz.func78, Tryz.ntmps78
  go_wp2_with fail
  refine H.out.mono ?_
  rintro e w2 ⟨m, rfl, rfl, hm⟩
  have HM := hid hm
  clear hm
  go_wp2_with fail
  go_ret
  rw [← HM.out]
  exact ⟨rfl, rfl⟩
set_option maxRecDepth 100000 in
theorem tells_out : Tells 94 lvOut where
  call := fun _ _ => by kernel_rfl
  ans := by
    intro v w
    have h1 : decide (v < -16320) = true ∨ decide (v < -16320) = false := by cases decide (v < -16320) <;> simp
    have HL := hid (show lvOut v = (decide (v < -16320) || decide (16320 < v)) from rfl)
    rcases h1 with h1 | h1
    all_goals
      rw [h1] at HL
      go_enter Tryz.func94, Tryz.ntmps94
      go_wp2_with fail
      go_ret
      rw [HL.out]
      exact ⟨rfl, rfl⟩
set_option maxRecDepth 100000 in
theorem tells_nonzero : Tells 95 (fun v => decide (v ≠ 0)) where
  call := fun _ _ => by kernel_rfl
  ans := by
    intro v w
    go_enter Tryz.func95, Tryz.ntmps95
    go_wp2_with fail
    go_ret
    refine ⟨?_, rfl⟩
    congr 2
    by_cases h : v = 0 <;> simp [h]
set_option maxRecDepth 100000 in
theorem zero_any (x : Value) (l : List Int) (w : World) (hx : Nums w x l) (hl : l.length ≤ 1000000000) :
    Calls Tryz.prog 83 #[x] w fun e w' => e = .returned (.bool (!notZ l)) ∧ w' = w := by
  have H := hid (contains_any _ _ tells_nonzero x l w hx hl)
  have HZ := hid (show notZ l = l.any (fun v => decide (v ≠ 0)) from rfl)
  clear hx hl
  go_enter Tryz.func83, Tryz.ntmps83
  go_wp2_with fail
  refine H.out.mono ?_
  rintro e w2 ⟨rfl, rfl⟩
  rw [← HZ.out]
  go_wp2_with fail
  go_ret
  exact ⟨rfl, rfl⟩
set_option maxRecDepth 100000 in
set_option maxHeartbeats 1000000 in
theorem within_any (x : Value) (l : List Int) (a b : Int) (w : World) (hx : Nums w x l) (hl : l.length ≤ 1000000000) :
    Calls Tryz.prog 66 #[x, .int .i64 a, .int .i64 b] w fun e w' => e = .returned (.bool (l.all fun v => decide (a ≤ v) && decide (v ≤ b))) ∧ w' = w := by
  obtain ⟨A, c, rfl, _⟩ := hx.form
  have X := hid (And.intro hx hl)
  clear hx hl
  go_enter Tryz.func66, Tryz.ntmps66
  go_wp2_with fail
  go_loopg [7] l.length (fun k iv wr => ∃ i : Nat, i + k = l.length ∧ iv = .int .i64 i ∧ (∀ j v, j < i → l[j]? = some v → a ≤ v ∧ v ≤ b) ∧ w = wr)
  case atStart => exact ⟨0, by omega, rfl, fun j v hj => by omega, rfl⟩
  case round =>
    obtain ⟨i, hi, rfl, hall, rfl⟩ := hrel
    have hl := X.out.2
    by_cases hlt : i < l.length
    · obtain ⟨v, hv⟩ : ∃ v, l[i]? = some v := ⟨l[i], List.getElem?_eq_getElem hlt⟩
      obtain ⟨b0, o0, rfl, _, p0⟩ := X.out.1.at_ hv
      have k0 : (0 : Int) ≤ (i : Int) := by omega
      have k1 : (i : Int) < (l.length : Int) := by omega
      have d1 : decide ((i : Int) < (l.length : Int)) = true := by simp; omega
      have d2 : decide (i < l.length) = true := by simp; omega
      have FF := hid (And.intro hi (And.intro hlt (And.intro hall hv)))
      clear hi hlt hall hv
      have hc : (decide (v < a) = true) ∨ (decide (v < a) = false ∧ decide (b < v) = true) ∨ (decide (v < a) = false ∧ decide (b < v) = false) := by
        cases decide (v < a) <;> cases decide (b < v) <;> simp
      rcases hc with h | ⟨h, h2⟩ | ⟨h, h2⟩
      rotate_right
      · skip
        have HQ := hid (And.intro h h2)
        go_wp2_with fail
        go_roundg (gk - 1)
        case measure => have := FF.out.1; have := FF.out.2.1; omega
        case rel =>
          refine ⟨i + 1, by have := FF.out.1; have := FF.out.2.1; omega, by go_num, ?_, rfl⟩
          intro j u hj hu
          rcases Nat.lt_or_ge j i with h1 | h1
          · exact FF.out.2.2.1 j u h1 hu
          · obtain rfl : j = i := by omega
            rw [FF.out.2.2.2] at hu
            injection hu with hu
            subst hu
            have := HQ.out
            simp only [decide_eq_false_iff_not] at this
            omega
      all_goals
        have hbad : (l.all fun v => decide (a ≤ v) && decide (v ≤ b)) = false := by
          rw [Bool.eq_false_iff]
          intro hh
          have := List.all_eq_true.1 hh v (List.mem_of_getElem? FF.out.2.2.2)
          simp only [Bool.and_eq_true, decide_eq_true_eq, decide_eq_false_iff_not] at this h
          try simp only [decide_eq_true_eq] at h2
          omega
        have HB := hid hbad
        clear hbad
        go_wp2_with fail
        go_ret
        rw [HB.out]
        exact ⟨rfl, rfl⟩
    · obtain rfl : i = l.length := by omega
      have d1 : decide ((l.length : Int) < (l.length : Int)) = false := by simp
      have hgood : (l.all fun v => decide (a ≤ v) && decide (v ≤ b)) = true := by
        rw [List.all_eq_true]
        intro v hv
        obtain ⟨j, hj⟩ := List.mem_iff_getElem?.1 hv
        have := hall j v (List.getElem?_eq_some_iff.1 hj).1 hj
        simp only [Bool.and_eq_true, decide_eq_true_eq]
        exact this
      have HB := hid hgood
      clear hgood hall hlt hi
      go_wp2_with fail
      go_ret
      rw [HB.out]
      exact ⟨rfl, rfl⟩
/-- What is wrong with levels. -/
def checkNo (l : List Int) : Int := if l.length ≠ 16 ∧ l.length ≠ 64 then 14 else if l.any lvOut then 3 else 0
theorem within_out (l : List Int) : (l.all fun v => decide (-16320 ≤ v) && decide (v ≤ 16320)) = !l.any lvOut := by
  rw [Bool.eq_iff_iff]
  simp only [Bool.not_eq_true', List.all_eq_true, Bool.and_eq_true, decide_eq_true_eq]
  constructor
  · intro h
    rw [Bool.eq_false_iff]
    intro h2
    obtain ⟨v, hv, hp⟩ := List.any_eq_true.1 h2
    have := h v hv
    unfold lvOut at hp
    simp only [Bool.or_eq_true, decide_eq_true_eq] at hp
    omega
  · intro h v hv
    have : lvOut v = false := by
      rw [Bool.eq_false_iff]
      intro h2
      have := List.any_eq_true.2 ⟨v, hv, h2⟩
      rw [h] at this
      exact Bool.noConfusion this
    exact lvOut_false this
theorem rzero_eq (l : List Int) : (l.all fun v => decide ((0 : Int) ≤ v) && decide (v ≤ (0 : Int))) = !notZ l := by
  unfold notZ
  rw [Bool.eq_iff_iff]
  simp only [Bool.not_eq_true', List.all_eq_true, Bool.and_eq_true, decide_eq_true_eq]
  constructor
  · intro h
    rw [Bool.eq_false_iff]
    intro h2
    obtain ⟨v, hv, hp⟩ := List.any_eq_true.1 h2
    have := h v hv
    simp only [ne_eq, decide_eq_true_eq] at hp
    omega
  · intro h v hv
    have : v = 0 := by
      apply Classical.byContradiction
      intro h2
      have := (List.any_eq_true (p := fun v : Int => decide (v ≠ 0))).2 ⟨v, hv, decide_eq_true h2⟩
      rw [h] at this
      exact Bool.noConfusion this
    omega
set_option maxRecDepth 100000 in
theorem rzero_any (x : Value) (l : List Int) (w : World) (hx : Nums w x l) (hl : l.length ≤ 1000000000) :
    Calls Tryz.prog 69 #[x] w fun e w' => e = .returned (.bool (!notZ l)) ∧ w' = w := by
  have H := hid (within_any x l 0 0 w hx hl)
  have HZ := hid (rzero_eq l)
  clear hx hl
  go_enter Tryz.func69, Tryz.ntmps69
  go_wp2_with fail
  refine H.out.mono ?_
  rintro e w2 ⟨rfl, rfl⟩
  rw [HZ.out]
  go_wp2_with fail
  go_ret
  exact ⟨rfl, rfl⟩
set_option maxRecDepth 100000 in
set_option maxHeartbeats 1000000 in
theorem check_any (x : Value) (l : List Int) (w : World) (hx : Nums w x l) (hl : l.length ≤ 1000000000) :
    Calls Tryz.prog 80 #[x] w fun e w' => e = .returned (codeV (checkNo l)) ∧ w' = w := by
  obtain ⟨A, c, rfl, _⟩ := hx.form
  have H := hid (contains_any _ _ tells_out (.slice A l.length c) l w hx hl)
  clear hx
  have hcase : ((((l.length : Int) != 16) = true ∧ ((l.length : Int) != 64) = true) ∧ checkNo l = 14) ∨ (((((l.length : Int) != 16) = true ∧ ((l.length : Int) != 64) = false) ∨ ((l.length : Int) != 16) = false) ∧ checkNo l = if l.any lvOut then 3 else 0) := by
    unfold checkNo
    simp only [bne_iff_ne, ne_eq, bne_eq_false_iff_eq]
    by_cases h1 : l.length = 16
    · right; refine ⟨.inr (by omega), ?_⟩; rw [if_neg (by omega)]
    · by_cases h2 : l.length = 64
      · right; refine ⟨.inl ⟨by omega, by omega⟩, ?_⟩; rw [if_neg (by omega)]
      · left; refine ⟨⟨by omega, by omega⟩, ?_⟩; rw [if_pos ⟨h1, h2⟩]
  rcases hcase with ⟨⟨h1, h2⟩, hk⟩ | ⟨h1, hk⟩
  · rw [hk, show codeV 14 = .iface 43 (.int .i64 14) from rfl]
    clear hk H
    go_enter Tryz.func80, Tryz.ntmps80
    go_wp2_with fail
    go_ret
    exact ⟨rfl, rfl⟩
  · have hq : (l.any lvOut = true ∧ codeV (checkNo l) = .iface 43 (.int .i64 3)) ∨ (l.any lvOut = false ∧ codeV (checkNo l) = .nilIface) := by
      rw [hk]
      cases l.any lvOut
      · exact .inr ⟨rfl, rfl⟩
      · exact .inl ⟨rfl, rfl⟩
    clear hk
    rcases hq with ⟨hq, hv⟩ | ⟨hq, hv⟩
    all_goals
      rw [hv]
      rw [hq] at H
      clear hv hq
      rcases h1 with ⟨h1, h2⟩ | h1
      all_goals
        go_enter Tryz.func80, Tryz.ntmps80
        go_wp2_with fail
        refine H.out.mono ?_
        rintro e w2 ⟨rfl, rfl⟩
        go_wp2_with fail
        go_ret
        exact ⟨rfl, rfl⟩
set_option maxRecDepth 100000 in
theorem base4 (w : World) : Calls Tryz.prog 81 #[.int .i64 4] w fun e w' => e = .returned (.int .i64 14) ∧ w' = w := by
  go_enter Tryz.func81, Tryz.ntmps81
  go_wp2_with fail
  go_ret
  exact ⟨rfl, rfl⟩
set_option maxRecDepth 100000 in
theorem base8 (w : World) : Calls Tryz.prog 81 #[.int .i64 8] w fun e w' => e = .returned (.int .i64 39) ∧ w' = w := by
  go_enter Tryz.func81, Tryz.ntmps81
  go_wp2_with fail
  go_ret
  exact ⟨rfl, rfl⟩
set_option maxRecDepth 100000 in
theorem rbase4 (w : World) : Calls Tryz.prog 67 #[.int .i64 4] w fun e w' => e = .returned (.int .i64 14) ∧ w' = w := by
  go_enter Tryz.func67, Tryz.ntmps67
  go_wp2_with fail
  go_ret
  exact ⟨rfl, rfl⟩
set_option maxRecDepth 100000 in
theorem rbase8 (w : World) : Calls Tryz.prog 67 #[.int .i64 8] w fun e w' => e = .returned (.int .i64 39) ∧ w' = w := by
  go_enter Tryz.func67, Tryz.ntmps67
  go_wp2_with fail
  go_ret
  exact ⟨rfl, rfl⟩
end Go.Proofs.YtkkgpdejmcpcpaaGreatDoor

