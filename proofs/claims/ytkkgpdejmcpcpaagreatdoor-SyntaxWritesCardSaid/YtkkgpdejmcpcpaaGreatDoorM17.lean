/- Parts: XCoefS. -/
import Derived.Test.YtkkgpdejmcpcpaaGreatDoorM08
/- Chapter 14, plain: what a writer answers is what it was told; the order. -/
namespace Go.Proofs.YtkkgpdejmcpcpaaGreatDoor
variable {α β γ σ τ : Type}

theorem say_ones (f : Nat → Nat) (v : Int) : ∀ (k n : Nat), (n : Int) ≤ v → (((onesA f v k n).say : Nat) : Int) = min v ((n + k : Nat) : Int) := by
  intro k
  induction k with
  | zero => intro n h; show (n : Int) = _; omega
  | succ k ih =>
    intro n h
    show (((if decide ((n : Int) < v) then onesA f v k (n + 1) else .ret n).say : Nat) : Int) = _
    by_cases h1 : (n : Int) < v
    · rw [if_pos (by simpa using h1), ih (n + 1) (by omega)]; omega
    · rw [if_neg (by simpa using h1)]; show (n : Int) = _; omega
theorem say_zeros (u : Nat) : ∀ (k z : Nat), 2 ^ z ≤ u → 2 ^ (zerosA (u : Int) k z).say ≤ u ∧ z ≤ (zerosA (u : Int) k z).say ∧ ((zerosA (u : Int) k z).say = z + k ∨ u < 2 ^ ((zerosA (u : Int) k z).say + 1)) := by
  intro k
  induction k with
  | zero => intro z h; exact ⟨h, Nat.le_refl _, .inl rfl⟩
  | succ k ih =>
    intro z h
    have e : (zerosA (u : Int) (k + 1) z).say = (if decide (((2 ^ (z + 1) : Nat) : Int) ≤ (u : Int)) then zerosA (u : Int) k (z + 1) else .ret z).say := rfl
    rw [e]
    by_cases h1 : 2 ^ (z + 1) ≤ u
    · rw [if_pos (by simp only [decide_eq_true_eq]; omega)]
      obtain ⟨i1, i2, i3⟩ := ih (z + 1) h1
      exact ⟨i1, by omega, by omega⟩
    · rw [if_neg (by simp only [decide_eq_true_eq]; omega)]
      exact ⟨h, Nat.le_refl _, .inr (by show u < 2 ^ (z + 1); omega)⟩
theorem lowBit_nat (u k : Nat) : (if lowBit (u : Int) k then 1 else 0 : Nat) = u / 2 ^ k % 2 := by
  unfold lowBit
  have e : ((u : Int) / ((2 ^ k : Nat) : Int) % 2) = ((u / 2 ^ k % 2 : Nat) : Int) := by simp
  rw [e]
  have := Nat.mod_lt (u / 2 ^ k) (show 2 > 0 by omega)
  by_cases h : u / 2 ^ k % 2 = 1
  · rw [if_pos (by simp only [decide_eq_true_eq]; omega)]; omega
  · rw [if_neg (by simp only [decide_eq_true_eq]; omega)]; omega
theorem say_lows (u : Nat) : ∀ (k n : Nat), (lowsA (u : Int) k n).say = n * 2 ^ k + u % 2 ^ k := by
  intro k
  induction k with
  | zero => intro n; show n = _; simp [Nat.mod_one]
  | succ k ih =>
    intro n
    show (lowsA (u : Int) k (2 * n + if lowBit (u : Int) k then 1 else 0)).say = _
    rw [ih, lowBit_nat]
    have h1 : u % 2 ^ (k + 1) = u % 2 ^ k + 2 ^ k * (u / 2 ^ k % 2) := by rw [Nat.pow_succ, Nat.mod_mul]
    rw [h1, Nat.pow_succ, Nat.add_mul]
    have h2 : 2 * n * 2 ^ k = n * (2 ^ k * 2) := by rw [Nat.mul_comm 2 n, Nat.mul_assoc, Nat.mul_comm 2]
    rw [h2, Nat.mul_comm (u / 2 ^ k % 2)]
    omega
theorem say_great (u : Nat) (h1 : 1 ≤ u) (h2 : u < 16384) : (greatA (u : Int)).say = u := by
  unfold greatA
  rw [say_bind, say_lows]
  obtain ⟨i1, i2, i3⟩ := say_zeros u 13 0 (by simpa using h1)
  have hlt : u < 2 ^ ((zerosA (u : Int) 13 0).say + 1) := by
    rcases i3 with h | h
    · rw [h]; exact h2
    · exact h
  generalize (zerosA (u : Int) 13 0).say = z at *
  rw [Nat.pow_succ] at hlt
  rw [Nat.one_mul]
  generalize 2 ^ z = q at *
  have : u % q = u - q := by rw [Nat.mod_eq_sub_mod i1, Nat.mod_eq_of_lt (by omega)]
  omega
theorem say_size (base v : Nat) (h : v ≤ 16319) : (sizeA base (v : Int)).say = v := by
  unfold sizeA
  rw [say_bind]
  have h1 := say_ones (sizeCtx base) (v : Int) 14 0 (by omega)
  by_cases h2 : v < 14
  · have e : (onesA (sizeCtx base) (v : Int) 14 0).say = v := by omega
    rw [e, if_neg (by omega)]
    rfl
  · have e : (onesA (sizeCtx base) (v : Int) 14 0).say = 14 := by omega
    rw [e, if_pos rfl, say_bind]
    obtain ⟨u, rfl⟩ : ∃ u, v = 13 + u := ⟨v - 13, by omega⟩
    rw [show ((13 + u : Nat) : Int) - 13 = (u : Int) by omega, say_great u (by omega) (by omega)]
    rfl
theorem say_level (base : Nat) (v : Int) (h0 : v ≠ 0) (h1 : -16320 ≤ v) (h2 : v ≤ 16320) : (levelA base v).say = v := by
  show ((sizeA base (max v (-v) - 1)).bind fun n => (.ret (if decide (v < 0) then -(n : Int) - 1 else (n : Int) + 1) : Ask Int)).say = v
  rw [say_bind]
  obtain ⟨m, hm⟩ : ∃ m : Nat, max v (-v) - 1 = (m : Int) := ⟨(max v (-v) - 1).toNat, by omega⟩
  rw [hm, say_size base m (by omega)]
  show (if decide (v < 0) then -(m : Int) - 1 else (m : Int) + 1) = v
  split
  · rename_i h; simp only [decide_eq_true_eq] at h; omega
  · rename_i h; simp only [decide_eq_true_eq] at h; omega
theorem getD_set_i (l : List Int) (a j : Nat) (x : Int) (ha : a < l.length) : (l.set a x).getD j 0 = if a = j then x else l.getD j 0 := by
  rw [List.getD_eq_getElem?_getD, List.getElem?_set]
  split
  · rename_i e; subst e; first | rfl | (rw [if_pos ha]; rfl)
  · rw [List.getD_eq_getElem?_getD]
theorem lvOut_true {x : Int} (h1 : -16320 ≤ x) (h2 : x ≤ 16320) : lvOut x = false := by
  unfold lvOut; simp; omega
theorem askIf_say {p : Bool} {c : Nat} {u d : Bool} {k : Bool → Ask α} : (askIf p c u d k).say = if p then (k u).say else (k d).say := by
  unfold askIf; cases p <;> rfl
theorem say_sq (base last : Nat) (l : List Int) (hl : ∀ v ∈ l, -16320 ≤ v ∧ v ≤ 16320) : ∀ (r : List Nat) (i : Nat) (out : List Int), i + r.length = last + 1 → out.length = l.length → (∀ a ∈ r, a < l.length) → r.Nodup → (∀ a ∈ r, out.getD a 0 = 0) → countO l r ≠ 0 →
    ∃ o, (sqA base last l r i (countO l r) out).say = (none, o) ∧ o.length = l.length ∧ ∀ j, j < l.length → o.getD j 0 = if j ∈ r then l.getD j 0 else out.getD j 0 := by
  intro r
  induction r with
  | nil => intro i out _ _ _ _ _ h; exact absurd rfl h
  | cons a r ih =>
    intro i out h1 h2 h3 h4 h5 h6
    rw [List.length_cons] at h1
    have hcc := countO_cons l a r
    have ha := h3 a (by simp)
    obtain ⟨hnotin, hnd⟩ := List.nodup_cons.1 h4
    by_cases hz : l.getD a 0 = 0
    · have hcr : countO l (a :: r) = countO l r := by rw [hcc, if_neg (fun k => k hz), Int.zero_add]
      have hr0 : countO l r ≠ 0 := by rw [← hcr]; exact h6
      have hi : i < last := by
        rcases Nat.lt_or_ge i last with h | h
        · exact h
        · exfalso
          have : r = [] := List.eq_nil_of_length_eq_zero (by omega)
          subst this
          exact hr0 rfl
      obtain ⟨o, o1, o2, o3⟩ := ih (i + 1) out (by omega) h2 (fun x hx => h3 x (by simp [hx])) hnd (fun x hx => h5 x (by simp [hx])) hr0
      refine ⟨o, ?_, o2, fun j hj => ?_⟩
      · unfold sqA
        rw [askIf_say, if_pos (by simpa using hi), if_neg (c := decide (l.getD a 0 ≠ 0) = true) (fun k => of_decide_eq_true k hz), hcr]
        exact o1
      · rw [o3 j hj]
        by_cases hja : j = a
        · subst hja
          rw [if_neg hnotin, if_pos (by simp), hz]
          exact h5 j (by simp)
        · simp [hja]
    · have hmem : l.getD a 0 ∈ l := by
        rw [List.getD_eq_getElem?_getD, List.getElem?_eq_getElem ha]
        exact List.getElem_mem ha
      have hb := hl _ hmem
      have hcr : (if l.getD a 0 ≠ 0 then countO l (a :: r) - 1 else countO l (a :: r)) = countO l r := by rw [if_pos hz, hcc, if_pos hz]; omega
      have hset : ∀ j, j < l.length → (out.set a (l.getD a 0)).getD j 0 = if a = j then l.getD a 0 else out.getD j 0 := fun j _ => getD_set_i _ _ _ _ (by omega)
      have hstep : (sqA base last l (a :: r) i (countO l (a :: r)) out).say = if decide (i < last) then (if decide (countO l r = 0) then (none, out.set a (l.getD a 0)) else (sqA base last l r (i + 1) (countO l r) (out.set a (l.getD a 0))).say) else (sqA base last l r (i + 1) (countO l r) (out.set a (l.getD a 0))).say := by
        conv => lhs; unfold sqA
        rw [askIf_say]
        have e : decide (l.getD a 0 ≠ 0) = true := decide_eq_true hz
        rw [e, hcr]
        have e2 : ∀ q : SqR, (if decide (i < last) = true then q else q) = q := fun q => by split <;> rfl
        rw [e2, if_pos rfl, say_bind, say_level base _ hz hb.1 hb.2, lvOut_true hb.1 hb.2, if_neg (by simp), askIf_say]
        split
        · split <;> rfl
        · rfl
      rw [hstep]
      by_cases hcz : countO l r = 0
      · have hrest : ∀ x ∈ r, l.getD x 0 = 0 := by
          intro x hx
          have := countO_zero l r
          rw [hcz] at this
          simp only [decide_true] at this
          have h7 := List.all_eq_true.1 this.symm x hx
          simpa using h7
        have hfin : ∀ j, j < l.length → (out.set a (l.getD a 0)).getD j 0 = if j ∈ a :: r then l.getD j 0 else out.getD j 0 := by
          intro j hj
          rw [hset j hj]
          by_cases hja : a = j
          · subst hja; rw [if_pos rfl, if_pos (by simp)]
          · rw [if_neg hja]
            by_cases hjr : j ∈ r
            · rw [if_pos (by simp [hjr]), hrest j hjr, h5 j (by simp [hjr])]
            · rw [if_neg (by simp [hjr, Ne.symm hja])]
        refine ⟨out.set a (l.getD a 0), ?_, by rw [List.length_set]; exact h2, hfin⟩
        by_cases hi : i < last
        · rw [if_pos (by simpa using hi), if_pos (by simpa using hcz)]
        · rw [if_neg (by simpa using hi)]
          have : r = [] := List.eq_nil_of_length_eq_zero (by omega)
          subst this
          rfl
      · have hi : i < last := by
          rcases Nat.lt_or_ge i last with h | h
          · exact h
          · exfalso
            have : r = [] := List.eq_nil_of_length_eq_zero (by omega)
            subst this
            exact hcz rfl
        obtain ⟨o, o1, o2, o3⟩ := ih (i + 1) (out.set a (l.getD a 0)) (by omega) (by rw [List.length_set]; exact h2) (fun x hx => h3 x (by simp [hx])) hnd (fun x hx => by
          rw [hset x (h3 x (by simp [hx])), if_neg (fun e => hnotin (by rw [e]; exact hx))]
          exact h5 x (by simp [hx])) hcz
        refine ⟨o, ?_, o2, fun j hj => ?_⟩
        · rw [if_pos (by simpa using hi), if_neg (by simpa using hcz)]; exact o1
        · rw [o3 j hj, hset j hj]
          by_cases hja : a = j
          · subst hja
            rw [if_neg hnotin, if_pos rfl, if_pos (by simp)]
          · rw [if_neg hja]
            by_cases hjr : j ∈ r
            · rw [if_pos hjr, if_pos (by simp [hjr])]
            · rw [if_neg hjr, if_neg (by simp [hjr, Ne.symm hja])]

/-! ### The order -/
def ordOf (n : Nat) : List Nat := (List.range (2 * n - 1)).flatMap fun s => (List.range (s + 1)).filterMap fun k => if (if s % 2 = 0 then k else s - k) < n ∧ (if s % 2 = 0 then s - k else k) < n then some ((if s % 2 = 0 then s - k else k) * n + (if s % 2 = 0 then k else s - k)) else none
/-- An order of all places of a list of n. -/
structure OrdOk (ord : List Nat) (n : Nat) : Prop where
  len : ord.length = n
  lt : ∀ a ∈ ord, a < n
  nodup : ord.Nodup
  all : ∀ j, j < n → j ∈ ord
  perm : ord.Perm (List.range n)
theorem ordOk_of {ord : List Nat} {n : Nat} (h : ord.isPerm (List.range n) = true) : OrdOk ord n := by
  have hp := List.isPerm_iff.1 h
  refine ⟨by rw [hp.length_eq, List.length_range], fun a ha => List.mem_range.1 (hp.mem_iff.1 ha), hp.nodup_iff.2 List.nodup_range, fun j hj => hp.mem_iff.2 (List.mem_range.2 hj), hp⟩
theorem ord4_ok : OrdOk (ordOf 4) 16 := ordOk_of (by decide +kernel)
theorem ord8_ok : OrdOk (ordOf 8) 64 := ordOk_of (by decide +kernel)
theorem countL_ord {ord : List Nat} {l : List Int} (h : OrdOk ord l.length) : countL l = countO l ord := by
  unfold countL countO
  rw [(h.perm.filter _).length_eq]
  have e : l = (List.range l.length).map fun a => l.getD a 0 := by
    apply List.ext_getElem?
    intro i
    rw [List.getElem?_map]
    by_cases hi : i < l.length
    · rw [List.getElem?_range hi, List.getElem?_eq_getElem hi]
      simp [List.getD_eq_getElem?_getD, hi]
    · rw [List.getElem?_eq_none (by omega), List.getElem?_eq_none (by simp; omega)]
      rfl
  conv => lhs; rw [e]
  rw [List.filter_map, List.length_map]
  rfl
theorem notZ_count (l : List Int) : notZ l = decide (countL l ≠ 0) := by
  unfold notZ countL
  generalize hp : (fun v : Int => decide (v ≠ 0)) = p
  rw [Bool.eq_iff_iff, List.any_eq_true, decide_eq_true_eq]
  constructor
  · rintro ⟨x, hx, h0⟩ he
    have h1 : (l.filter p).length = 0 := by omega
    have h3 : x ∈ l.filter p := List.mem_filter.2 ⟨hx, h0⟩
    rw [List.eq_nil_of_length_eq_zero h1] at h3
    cases h3
  · intro h
    have h1 : l.filter p ≠ [] := fun e => h (by rw [e]; rfl)
    obtain ⟨x, hx⟩ := List.exists_mem_of_ne_nil _ h1
    obtain ⟨h2, h3⟩ := List.mem_filter.1 hx
    exact ⟨x, h2, h3⟩
theorem say_square (base : Nat) (ord : List Nat) (l : List Int) (ho : OrdOk ord l.length) (hl : ∀ v ∈ l, -16320 ≤ v ∧ v ≤ 16320) (hn : 0 < l.length) : (squareA base ord l).say = (none, l) := by
  have hnz := notZ_count l
  show (if notZ l then sqA base (l.length - 1) l ord 0 (countL l) (zerosL l.length) else .ret (none, zerosL l.length)).say = _
  have hzl : (zerosL l.length).length = l.length := by simp [zerosL]
  have hz0 : ∀ a, (zerosL l.length).getD a 0 = 0 := by
    intro a
    unfold zerosL
    rw [List.getD_eq_getElem?_getD, List.getElem?_replicate]
    split <;> rfl
  by_cases h : countL l = 0
  · rw [hnz, if_neg (by simp [h])]
    show (none, zerosL l.length) = _
    congr 1
    apply List.ext_getElem (by rw [hzl])
    intro i h1 h2
    have h3 : restZ l ord = true := by
      rw [← countO_zero, ← countL_ord ho, h]; rfl
    have h4 := List.all_eq_true.1 h3 i (ho.all i h2)
    have h5 : l.getD i 0 = 0 := by simpa using h4
    rw [List.getD_eq_getElem?_getD, List.getElem?_eq_getElem h2] at h5
    have h6 : l[i] = 0 := h5
    rw [h6]
    simp [zerosL]
  · rw [hnz, if_pos (by simp [h]), countL_ord ho]
    obtain ⟨o, o1, o2, o3⟩ := say_sq base (l.length - 1) l hl ord 0 (zerosL l.length) (by rw [ho.len]; omega) hzl ho.lt ho.nodup (fun a _ => hz0 a) (by rw [← countL_ord ho]; exact h)
    rw [o1]
    congr 1
    apply List.ext_getElem o2
    intro i h1 h2
    have h3 := o3 i h2
    rw [if_pos (ho.all i h2), List.getD_eq_getElem?_getD, List.getD_eq_getElem?_getD, List.getElem?_eq_getElem h1, List.getElem?_eq_getElem h2] at h3
    exact h3
theorem notZ_zeros (n : Nat) : notZ (zerosL n) = false := by
  unfold notZ
  rw [Bool.eq_false_iff]
  intro h
  obtain ⟨x, hx, h0⟩ := List.any_eq_true.1 h
  have := List.eq_of_mem_replicate hx
  subst this
  simp at h0
/-- Nothing but 0: one bit. -/
theorem run_zeros (M : Mach σ) (hE : Echo M) (base : Nat) (ord : List Nat) (n : Nat) (s : σ) : M.run (squareA base ord (zerosL n)) s = ((none, zerosL n), (M.bit s base false).2) := by
  unfold squareA
  rw [run_bit, notZ_zeros, hE.bit]
  simp [zerosL, run_ret]
end Go.Proofs.YtkkgpdejmcpcpaaGreatDoor

