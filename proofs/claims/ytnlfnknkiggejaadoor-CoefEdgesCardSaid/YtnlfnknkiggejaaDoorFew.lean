/- Chapter 14: lists of lists: few; a list copied. -/
import Derived.Test.YtnlfnknkiggejaaDoorOwnC
import Derived.Test.YtnlfnknkiggejaaDoorOpenLst
import Derived.Test.YtnlfnknkiggejaaDoorCoefO
namespace Go.Proofs.YtnlfnknkiggejaaDoor
open Go.RowKit

theorem nums_of_els {w : World} {x : Value} {l : List Int} (h : Els w 1 IntR x l) : Nums w x l := by
  obtain ⟨A, c, h1, h2, h3⟩ := h
  refine ⟨A, c, h1, h2, fun h0 => ?_⟩
  obtain ⟨b, off, h4, h5, h6⟩ := h3 h0
  refine ⟨b, off, h4, h5, fun i v hv => ?_⟩
  obtain ⟨cs, _, ⟨rfl, _⟩, h8⟩ := h6 i v hv
  simpa using h8 0 _ rfl
/-- A list of the argument, as it lies. -/
theorem ints_at {w : World} {A : Option Addr} {n c : Nat} {l : List (List Int)} (h : Els w 1 (IntsR w) (.slice A n c) l) {i : Nat} {zs : List Int} (hz : l[i]? = some zs) :
    ∃ b off A' c', A = some ⟨b, off, none⟩ ∧ b < w.heap.size ∧ w.cell? ⟨b, off + i, none⟩ = some (.slice A' zs.length c') ∧ Nums w (.slice A' zs.length c') zs ∧ zs.length ≤ maxLen := by
  obtain ⟨b, off, cs, e, hb, _, ⟨v, rfl, hE, hm⟩, hc⟩ := Els.at_ h hz
  obtain ⟨A', c', rfl, _⟩ := Els.form hE
  exact ⟨b, off, A', c', e, hb, by simpa using hc 0 _ rfl, nums_of_els hE, hm⟩
set_option maxRecDepth 100000 in
set_option maxHeartbeats 2000000 in
theorem few_any (x : Value) (l : List (List Int)) (w : World) (hx : Els w 1 (IntsR w) x l) (hl : l.length ≤ maxLen) :
    Calls Tryd.prog 15 #[x] w fun e w' => ∃ q : Bool, e = .returned (.bool q) ∧ w' = w ∧ (q = true → l.length ≤ 200 ∧ ∀ zs ∈ l, zs.length ≤ 5000) := by
  obtain ⟨A, c, rfl, _⟩ := hx.form
  have X := hid (And.intro hx hl)
  have hl63 : (l.length : Int) ≤ 9223372036854775807 := by unfold maxLen at hl; omega
  clear hx hl
  go_enter Tryd.func15, Tryd.ntmps15
  go_wp2_with fail
  go_loopg [3, 4] 200 (fun k nv iv wr => ∃ (i n : Nat), i + k = 200 ∧ iv = .int .i64 i ∧ nv = .int .i64 n ∧ n ≤ 5001 * i ∧ i ≤ l.length ∧ (∀ j zs, j < i → l[j]? = some zs → min zs.length 5001 ≤ n) ∧ w = wr)
  case atStart => exact ⟨0, 0, by omega, rfl, rfl, by omega, by omega, fun j zs hj => by omega, rfl⟩
  case round =>
    obtain ⟨i, n, hk, rfl, rfl, hn, hil, hall, rfl⟩ := hrel
    have HA := hid (And.intro hall (And.intro hk hil))
    have hcase : (decide ((i : Int) < (l.length : Int)) = false ∧ i = l.length) ∨ (i < l.length ∧ decide ((i : Int) < (l.length : Int)) = true ∧ decide ((i : Int) < 200) = false) ∨ (i < l.length ∧ decide ((i : Int) < (l.length : Int)) = true ∧ decide ((i : Int) < 200) = true) := by
      by_cases h1 : i < l.length
      · have e1 : decide ((i : Int) < (l.length : Int)) = true := by simp; omega
        by_cases h2 : i < 200
        · exact .inr (.inr ⟨h1, e1, by simp; omega⟩)
        · exact .inr (.inl ⟨h1, e1, by simp; omega⟩)
      · exact .inl ⟨by simp; omega, by omega⟩
    have hnb : (0 : Int) ≤ (n : Int) ∧ (n : Int) ≤ 2000000 := by omega
    rcases hcase with ⟨h1, h2⟩ | ⟨h1, h2, h3⟩ | ⟨h1, h2, h3⟩
    · have h9 : decide (i < l.length) = false := decide_eq_false (by omega)
      have hq : (decide ((l.length : Int) ≤ 200) = true ∧ l.length ≤ 200) ∨ decide ((l.length : Int) ≤ 200) = false := by
        by_cases h : l.length ≤ 200
        · exact .inl ⟨by simp; omega, h⟩
        · exact .inr (by simp; omega)
      have H2 := hid h2
      clear hall hk hil h2 hn
      rcases hq with ⟨hq, hq2⟩ | hq
      · have HQ := hid hq2
        clear hq2
        go_wp2_with fail
        go_ret
        refine ⟨_, rfl, rfl, fun h => ⟨HQ.out, fun zs hz => ?_⟩⟩
        obtain ⟨j, hj⟩ := List.mem_iff_getElem?.1 hz
        have hjl := (List.getElem?_eq_some_iff.1 hj).1
        have := HA.out.1 j zs (by have := H2.out; omega) hj
        have h5 : (n : Int) ≤ 5000 := by simpa using h
        omega
      · go_wp2_with fail
        go_ret
        exact ⟨_, rfl, rfl, fun h => by simp at h⟩
    · have h9 : decide (i < l.length) = true := decide_eq_true h1
      have hq : decide ((l.length : Int) ≤ 200) = false := by
        have : i = 200 := by simp only [decide_eq_false_iff_not] at h3; omega
        simp; omega
      clear hall hk hil hn
      go_wp2_with fail
      go_ret
      exact ⟨_, rfl, rfl, fun h => by simp at h⟩
    · have h9 : decide (i < l.length) = true := decide_eq_true h1
      obtain ⟨zs, hz⟩ : ∃ zs, l[i]? = some zs := ⟨l[i], List.getElem?_eq_getElem h1⟩
      obtain ⟨b4, o4, A', c', rfl, _, f0, _, hmz⟩ := ints_at X.out.1 hz
      have k0 : (0 : Int) ≤ (i : Int) := by omega
      have k1 : (i : Int) < (l.length : Int) := by omega
      have hz63 : (zs.length : Int) ≤ 9223372036854775807 := by unfold maxLen at hmz; omega
      have hi200 : i < 200 := by simp only [decide_eq_true_eq] at h3; omega
      have HZ := hid (And.intro hz (And.intro h1 hn))
      clear hall hk hil hz hmz hn
      go_wp2_with fail
      go_roundg (gk - 1)
      case measure => have := HA.out.2; omega
      case rel =>
        refine ⟨i + 1, n + min zs.length 5001, by have := HA.out.2; omega, by go_num, by go_num, by have := HZ.out.2.2; omega, by have := HZ.out.2.1; omega, ?_, rfl⟩
        intro j ys hj hy
        rcases Nat.lt_or_ge j i with h | h
        · have := HA.out.1 j ys h hy
          omega
        · obtain rfl : j = i := by omega
          rw [HZ.out.1] at hy
          injection hy with hy
          subst hy
          omega
theorem one_intV (l : List Int) : ∀ u ∈ l.map intV, u.oneCell' = true := by
  intro u hu
  obtain ⟨z, _, rfl⟩ := List.mem_map.1 hu
  rfl
theorem copy_ints (x : Value) (l : List Int) (w : World) (hx : Nums w x l) (hl : l.length ≤ 1000000) :
    Calls Tryd.prog 17 #[x] w fun e w' => ∃ g cap, e = .returned (.slice (some ⟨g, 0, none⟩) l.length cap) ∧ w'.ownsRow w.heap.size 3 1 (.slice (some ⟨g, 0, none⟩) l.length cap) l.length (l.map intV) ∧ Below w.heap.size w w' := by
  obtain ⟨i0, hi0, hz0, hz1, hz2⟩ := info_parts info_int1
  have hfrom := (hx.below ((Below.refl w.heap.size w).alloc (Nat.le_refl _) (.cells #[] 3))).from_
  have F := hid hfrom
  clear hfrom hx
  go_enter Tryd.func17, Tryd.ntmps17
  go_wp2_with (at_builtin; refine wpList_append_form _ rfl _ _ _ rfl w.heap.size 3 i0 (.int .i64 0) 1 8 Tryd.underlying29 hi0 hz0 hz1 hz2 rfl (by omega) (.slice (some ⟨w.heap.size, 0, none⟩) 0 0) 0 [] rfl (World.ownsRow_lit w #[] 0 (Nat.le_refl _) (by unfold maxLen; omega) rfl) x l.length (l.map intV) rfl F.out (one_intV l) (.inl (by simp [Value.ownBlock])) (by unfold maxLen; omega) (by omega) (by simp) l.length (l.map intV) (by simp) (by simp) ?_; intro g cap w1 hown hgrow hat hlt)
  have hb : Below w.heap.size w w1 := ((Below.refl _ _).alloc (Nat.le_refl _) _).grown hgrow (by simp) (fun k hk => by simp [Value.ownBlock] at hk; omega)
  go_ret
  exact ⟨g, cap, rfl, hown, hb⟩
end Go.Proofs.YtnlfnknkiggejaaDoor
