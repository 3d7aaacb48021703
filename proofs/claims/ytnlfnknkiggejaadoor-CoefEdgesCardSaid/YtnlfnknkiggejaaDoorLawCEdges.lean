/- CoefEdges: the walk. -/
import Derived.Test.YtnlfnknkiggejaaDoorLawCBack
namespace Go.Proofs.YtnlfnknkiggejaaDoor
open Go.RowKit

theorem els_blk {W : World} {g : Nat} {u : List Int} (h : Blk W g 3 (u.map intV).toArray) (hw : ∀ z ∈ u, (Lit.int .i64 z).wf = true) : Els W 1 IntR (.slice (some ⟨g, 0, none⟩) u.length u.length) u := by
  refine ⟨_, _, rfl, Nat.le_refl _, fun _ => ⟨g, 0, rfl, h.lt, fun i a ha => ⟨[.int .i64 a], rfl, ⟨rfl, hw a (List.mem_of_getElem? ha)⟩, fun j x hx => ?_⟩⟩⟩
  have hj : j = 0 := by
    have := (List.getElem?_eq_some_iff.1 hx).1
    simp at this
    omega
  subst hj
  have hx' : Value.int .i64 a = x := by simpa using hx
  subst hx'
  rw [show 0 + i * 1 + 0 = i by omega, h.cell, List.getElem?_toArray, List.getElem?_map, ha]
  rfl
theorem els4 {W : World} {g n m g1 g2 : Nat} {t : TypeId} {u z : List Int} (h : Blk W g t #[.slice (some ⟨g1, 0, none⟩) n n, .slice (some ⟨g1, 0, none⟩) n n, .slice (some ⟨g2, 0, none⟩) m m, .slice (some ⟨g1, 0, none⟩) n n])
    (hu : Els W 1 IntR (.slice (some ⟨g1, 0, none⟩) n n) u) (hz : Els W 1 IntR (.slice (some ⟨g2, 0, none⟩) m m) z) (hu2 : u.length ≤ maxLen) (hz2 : z.length ≤ maxLen) : Els W 1 (IntsR W) (.slice (some ⟨g, 0, none⟩) 4 4) [u, u, z, u] := by
  refine ⟨_, _, rfl, by show 4 ≤ 4; omega, fun _ => ⟨g, 0, rfl, h.lt, fun i a ha => ?_⟩⟩
  have key : ∀ v, (#[Value.slice (some ⟨g1, 0, none⟩) n n, .slice (some ⟨g1, 0, none⟩) n n, .slice (some ⟨g2, 0, none⟩) m m, .slice (some ⟨g1, 0, none⟩) n n] : Array Value)[i]? = some v → Els W 1 IntR v a → a.length ≤ maxLen → ∃ cs, cs.length = 1 ∧ IntsR W a cs ∧ ∀ (j : Nat) (x : Value), cs[j]? = some x → W.cell? ⟨g, 0 + i * 1 + j, none⟩ = some x := by
    intro v hv he hl
    refine ⟨[v], rfl, ⟨v, rfl, he, hl⟩, fun j x hx => ?_⟩
    have hj : j = 0 := by
      have := (List.getElem?_eq_some_iff.1 hx).1
      simp at this
      omega
    subst hj
    have hx' : v = x := by simpa using hx
    subst hx'
    rw [show 0 + i * 1 + 0 = i by omega, h.cell]
    exact hv
  match i, ha with
  | 0, ha => have e : u = a := by simpa using ha
             subst e; exact key _ rfl hu hu2
  | 1, ha => have e : u = a := by simpa using ha
             subst e; exact key _ rfl hu hu2
  | 2, ha => have e : z = a := by simpa using ha
             subst e; exact key _ rfl hz hz2
  | 3, ha => have e : u = a := by simpa using ha
             subst e; exact key _ rfl hu hu2
  | k + 4, ha => simp at ha
theorem wf_zero : (Lit.int .i64 0).wf = true := by decide
set_option maxRecDepth 100000 in
set_option maxHeartbeats 1000000 in
theorem cedges_walk (v at_ : Int) (lg all : Bool) (w : World) (hv : (Lit.int .i64 v).wf = true) (_ : (Lit.int .i64 at_).wf = true) (hg : ErrT w) :
    Calls Tryd.prog 5 #[.int .i64 v, .int .i64 at_, .bool lg, .bool all] w fun e w' => e = .returned (.bool true) ∧ Below w.heap.size w w' := by
  have HG := hid (And.intro hg hg.lt)
  have HV := hid hv
  clear hg hv
  go_enter Tryd.func5, Tryd.ntmps5
  go_wp2_with fail
  refine (first14 _ HG.out.1).mono ?_
  rintro e w1 ⟨rfl, h1⟩
  have B1 := hid h1
  clear h1
  have hcs : (decide (v < -16320) = true) ∨ (decide (v < -16320) = false ∧ decide (16320 < v) = true) ∨ (decide (v < -16320) = false ∧ decide (16320 < v) = false) := by
    by_cases h1 : v < -16320
    · exact .inl (decide_eq_true h1)
    · by_cases h2 : 16320 < v
      · exact .inr (.inl ⟨decide_eq_false h1, decide_eq_true h2⟩)
      · exact .inr (.inr ⟨decide_eq_false h1, decide_eq_false h2⟩)
  rcases hcs with h1 | ⟨h1, h2⟩ | ⟨h1, h2⟩
  · go_wp2_with fail
    refine (first14 _ (by exact HG.out.1.below B1.out HG.out.2)).mono ?_
    rintro e w9 ⟨rfl, hb9⟩
    have B9 := hid (B1.out.trans (hb9.mono B1.out.size))
    clear hb9
    go_wp2_with fail
    go_ret
    exact ⟨rfl, B9.out⟩
  · go_wp2_with fail
    refine (first14 _ (by exact HG.out.1.below B1.out HG.out.2)).mono ?_
    rintro e w9 ⟨rfl, hb9⟩
    have B9 := hid (B1.out.trans (hb9.mono B1.out.size))
    clear hb9
    go_wp2_with fail
    go_ret
    exact ⟨rfl, B9.out⟩
  · have hnn : nOf lg ≤ 64 ∧ 0 < nOf lg := by cases lg <;> simp [nOf]
    have hmk := run_make_int (nOf lg) (by omega)
    have hmk16 := run_make_int 16 (by omega)
    rw [show ((16 : Nat) : Int) = 16 from rfl] at hmk16
    have hzl0 : (zerosL (nOf lg)).length = nOf lg := by simp [zerosL]
    go_upto_if 21 with fail
    obtain ⟨w5, hw5⟩ : ∃ q, q = w1 := ⟨_, rfl⟩
    subst hw5
    go_cut [9] from 21 to 21 (fun v W => v = .int .i64 (nOf lg : Int) ∧ w5 = W)
    case first =>
      cases lg
      all_goals
        go_wp2_with fail
        go_meet
        exact ⟨rfl, rfl⟩
    case rest =>
    obtain ⟨rfl, rfl⟩ := hcut
    generalize nOf lg = n at *
    have HN := hid (And.intro hnn hzl0)
    have hn0 : ¬ ((n : Int) = 0) := by omega
    have hn1 : ((n : Int) == 0) = false := by simp; omega
    clear hzl0
    go_wp2_with fail
    have hal : Below w5.heap.size w5 (w5.alloc (.cells ((zerosL n).map intV).toArray 3)) := (Below.refl _ _).alloc (Nat.le_refl _) _
    have Z0 := hid (And.intro (B1.out.trans (hal.mono B1.out.size)) (And.intro B1.out.size (Blk.new w5 3 ((zerosL n).map intV).toArray)))
    clear hal
    generalize w5.alloc (.cells ((zerosL n).map intV).toArray 3) = W0 at *
    generalize w5.heap.size = g at *
    go_loopg [11] n (fun k iv wr => ∃ (j : Nat) (u : List Int), j + k = n ∧ iv = .int .i64 j ∧ u.length = n ∧ (∀ z ∈ u, (Lit.int .i64 z).wf = true) ∧ Below w.heap.size w wr ∧ Blk wr g 3 (u.map intV).toArray)
    case atStart => exact ⟨0, zerosL n, by omega, rfl, HN.out.2, fun v hv => by rw [List.eq_of_mem_replicate hv]; exact wf_zero, Z0.out.1, Z0.out.2.2⟩
    case round =>
      obtain ⟨j, u, hj, rfl, hul, hui, hB, hbu⟩ := hrel
      have Y := hid (And.intro hB (And.intro hbu (And.intro hul (And.intro hui hj))))
      by_cases hjn : j < n
      · have d0 : decide (j < n) = true := decide_eq_true hjn
        have d1 : decide ((j : Int) < (n : Int)) = true := by simp; omega
        have k2 : (0 : Int) ≤ (j : Int) := by omega
        have k3 : (j : Int) < (n : Int) := by omega
        have hzc : wr.cell? ⟨g, j, none⟩ = some (.int .i64 (u.getD j 0)) := by
          rw [hbu.cell, List.getElem?_toArray, List.getElem?_map, List.getD_eq_getElem?_getD, List.getElem?_eq_getElem (by omega)]
          rfl
        have hfz := hbu.frozen j
        clear hB hbu hul hui hj
        have HJ := hid (show (∃ u2 : List Int, u2.length = n ∧ (∀ z ∈ u2, (Lit.int .i64 z).wf = true) ∧ Below w.heap.size w (wr.setCell ⟨g, j, none⟩ (.int .i64 v)) ∧ Blk (wr.setCell ⟨g, j, none⟩ (.int .i64 v)) g 3 (u2.map intV).toArray) from by
          refine ⟨u.set j v, by rw [List.length_set]; exact Y.out.2.2.1, fun x hx => ?_, Y.out.1.setCell (p := ⟨g, j, none⟩) Z0.out.2.1 _, ?_⟩
          · rcases List.mem_or_eq_of_mem_set hx with h | h
            · exact Y.out.2.2.2.1 x h
            · subst h; exact HV.out
          · have h := Y.out.2.1.put j (intV v)
            rw [show ((u.set j v).map intV).toArray = (u.map intV).toArray.setIfInBounds j (intV v) by simp [List.map_set]]
            exact h)
        cases all
        all_goals
          go_wp2_with fail
          all_goals
            go_roundg (gk - 1)
            case measure => have := Y.out.2.2.2.2; omega
            case rel =>
              first
                | exact ⟨j + 1, u, by have := Y.out.2.2.2.2; omega, by go_num, Y.out.2.2.1, Y.out.2.2.2.1, Y.out.1, Y.out.2.1⟩
                | (obtain ⟨u2, e1, e2, e3, e4⟩ := HJ.out
                   exact ⟨j + 1, u2, by have := Y.out.2.2.2.2; omega, by go_num, e1, e2, e3, e4⟩)
      · obtain rfl : j = n := by omega
        have d0 : decide (j < j) = false := decide_eq_false (by omega)
        have d1 : decide ((j : Int) < (j : Int)) = false := by simp
        clear hB hbu hul hui hj
        go_wp2_with fail
        have hal : Below wr.heap.size wr (wr.alloc (.cells ((zerosL 16).map intV).toArray 3)) := (Below.refl _ _).alloc (Nat.le_refl _) _
        have hzb := Blk.new wr 3 ((zerosL 16).map intV).toArray
        have hbb := Y.out.2.1.below hal Y.out.2.1.lt
        have hB2 := Y.out.1.trans (hal.mono Y.out.1.size)
        have hsz2 : (wr.alloc (.cells ((zerosL 16).map intV).toArray 3)).heap.size = wr.heap.size + 1 := by simp
        generalize wr.alloc (.cells ((zerosL 16).map intV).toArray 3) = W2 at *
        generalize wr.heap.size = g2 at *
        have hal2 : ∀ cs, Below W2.heap.size W2 (W2.alloc (.cells cs 29)) := fun cs => (Below.refl _ _).alloc (Nat.le_refl _) _
        have hEu := (els_blk hbb Y.out.2.2.2.1)
        have hEz := (els_blk hzb (fun z hz => by rw [List.eq_of_mem_replicate hz]; exact wf_zero))
        rw [show (zerosL 16).length = 16 by simp [zerosL]] at hEz
        rw [Y.out.2.2.1] at hEu
        have hE4 := els4 (Blk.new W2 29 #[.slice (some ⟨g, 0, none⟩) j j, .slice (some ⟨g, 0, none⟩) j j, .slice (some ⟨g2, 0, none⟩) 16 16, .slice (some ⟨g, 0, none⟩) j j]) (hEu.below (hal2 _)) (hEz.below (hal2 _)) (by rw [Y.out.2.2.1]; unfold maxLen; omega) (by simp [zerosL, maxLen])
        rw [hsz2] at hE4
        have FIN := hid (And.intro hE4 (And.intro (hB2.trans ((hal2 #[.slice (some ⟨g, 0, none⟩) j j, .slice (some ⟨g, 0, none⟩) j j, .slice (some ⟨g2, 0, none⟩) 16 16, .slice (some ⟨g, 0, none⟩) j j]).mono hB2.size)) (show ([u, u, zerosL 16, u] : List (List Int)).length ≤ maxLen by show 4 ≤ maxLen; unfold maxLen; omega)))
        clear hE4 hEz hEu hB2 hbb hzb hal
        refine (cback_walk _ [u, u, zerosL 16, u] 0 _ (by exact FIN.out.1) (by exact FIN.out.2.2) wf_zero (by exact HG.out.1.below FIN.out.2.1 HG.out.2)).mono ?_
        rintro e w9 ⟨rfl, hb9⟩
        have B9 := hid (FIN.out.2.1.trans (hb9.mono FIN.out.2.1.size))
        clear hb9
        go_wp2_with fail
        go_ret
        exact ⟨rfl, B9.out⟩
end Go.Proofs.YtnlfnknkiggejaaDoor
