/-
  JobEnds: the card.
  The card ties what the row lists to the pruned copy that was translated: it says nothing of the packages that were left out.
-/
import Derived.Test.YtabklmkdneoaaaaDoorLawJEnds
import Derived.Test.YtabklmkdneoaaaaDoorOpenLaid
import Derived.Test.YtabklmkdneoaaaaDoorOpenByt
import Derived.Test.YtabklmkdneoaaaaDoorOpenStr
import Derived.Test.YtabklmkdneoaaaaDoorCards
import Derived.Test.YtabklmkdneoaaaaDoorTie
import Derived.SevenTiedAt
namespace Go.Proofs.YtabklmkdneoaaaaDoor
open Go.ChangeShapes Go.WideShapes Go.ChangeAt Go.RowKit Go.Deep
set_option linter.unusedVariables false
namespace jobEndsFrame
theorem paramsHere : Tryd.f11.params = #[3, 61, 73] := by kernel_rfl
set_option maxRecDepth 100000 in
theorem lifted (os : Os) (started : os.Started) (H : Type) (enc : TypeId × Value → H) :
    ReturnsInHanded {} Tryd.checked os 11 .any (fun w args => (Rows.jobEndsSpec.pre enc Tryd.prog Tryd.f11 [] false w args ∧ laidMetH Tryd.prog laidHere w) ∧ sizedMet enc Tryd.prog Tryd.f11 (OpenSpec.ofChange Rows.jobEndsSpec) false w args)
      (Rows.jobEndsSpec.post enc Tryd.prog Tryd.f11 false true false false) := by
  refine returnsInHanded_of_change_and (C := Tryd.checked) (X := fun w _ => laidMetH Tryd.prog laidHere w) (fun _ _ _ hh h => h.of_heap hh) ownH started (by kernel_rfl) Tryd.func11
    (ChangeSpec.witness_at (enc := enc) (C := Tryd.checked) (os := os) (X := fun w _ => laidMetH Tryd.prog laidHere w) false (laidWorld os) #[.int .i64 0, .slice none 0 0, .agg #[.int .i64 0, .int .i64 0, .int .i64 0, .int .i64 0, .int .i64 0]] 8 rfl (by kernel_rfl) (by kernel_rfl) (by kernel_rfl) (by kernel_rfl) (by kernel_rfl) (laidWorld_met os _)) ?_
  intro W base args ds gs before hval0 hW _ _ hL _
  have hval : ∀ (j : Nat) t v, Tryd.f11.params[j]? = some t → args[j]? = some v → Value.okWide Tryd.prog W .any base t v := hval0
  have hW' := hW
  obtain ⟨p, q, hA0, hV, rfl, hfz, hnd⟩ := hW
  have hA : DataW.TrodAll enc Tryd.prog W 0 (fun _ => true) true Tryd.f11.params.toList args.toList ds p := hA0
  rw [paramsHere] at hA hval
  obtain ⟨v0, vs0, d0, ds0, p0, q0, hargs, rfl, rfl, h0, r0⟩ := trodAll_cons hA
  obtain ⟨v1, vs1, d1, ds1, p1, q1, rfl, rfl, rfl, h1, r1⟩ := trodAll_cons r0
  obtain ⟨v2, vs2, d2, ds2, p2, q2, rfl, rfl, rfl, h2, r2⟩ := trodAll_cons r1
  obtain ⟨rfl, rfl, rfl⟩ := trodAll_nil r2
  obtain rfl : args = #[v0, v1, v2] := by cases args; simp_all
  obtain ⟨rfl, rfl⟩ := trodVars_none hV
  have k0 := h0
  have lt0 : ∀ x ∈ p0, x.block < W.heap.size := by obtain ⟨m, hm⟩ := k0; exact DataW.trod_lt m _ _ _ hm
  have k1 := h1
  have lt1 : ∀ x ∈ p1, x.block < W.heap.size := by obtain ⟨m, hm⟩ := k1; exact DataW.trod_lt m _ _ _ hm
  have k2 := h2
  have lt2 : ∀ x ∈ p2, x.block < W.heap.size := by obtain ⟨m, hm⟩ := k2; exact DataW.trod_lt m _ _ _ hm
  obtain ⟨a0, rfl, rfl, rfl, w0⟩ := open_int Tryd.underlying3 (hval 0 3 v0 rfl rfl) h0
  obtain ⟨x1, len1, cap1, rfl⟩ := okWide_slice Tryd.underlying61 (hval 1 61 v1 rfl rfl)
  obtain ⟨a1, rfl, w1, z1⟩ := open_ints2 h1
  obtain ⟨a2, rfl⟩ := open_rec (hval 2 73 v2 rfl rfl) h2
  clear hA0 hval0
  refine (jends_walk _ a0 a1 a2 W w0 w1 z1 (errT_of_laid hL)).mono fun e W' ⟨he, bel⟩ => ?_
  subst he
  exact ⟨_, rfl, _, _, _, [], _, [], hW', trodAll_mk1 (shut_bool Tryd.underlying4 _), (trodAll_cons_mk (Below.trod laidOutH (by kernel_rfl) (of_decide_eq_true (by kernel_rfl)) k0 bel lt0) (trodAll_cons_mk (Below.trod laidOutH (by kernel_rfl) (of_decide_eq_true (by kernel_rfl)) k1 bel lt1) (trodAll_cons_mk (Below.trod laidOutH (by kernel_rfl) (of_decide_eq_true (by kernel_rfl)) k2 bel lt2) trodAll_mk0))), rfl, bel.frame _, fun h => by cases h⟩
theorem row_holds : Rows.JobEndsSaid :=
  OpenClaim.holds_of_wide 11 Tryd.f11 rfl rfl rfl rfl rfl rfl rfl ⟨rfl, rfl, rfl, rfl, rfl⟩ rfl rfl rfl rfl rfl (by kernel_rfl) Tryd.func11 (by kernel_rfl)
    (of_decide_eq_true (by kernel_rfl)) (by unfold Func.isWrapper; first | (rw [if_pos (by decide +kernel)]; kernel_rfl) | (rw [if_neg (by decide +kernel)]; exact ⟨rfl, rfl⟩))
    (fun os started H enc _ => lifted os started H enc)
end jobEndsFrame
/-- THE CARD. -/
theorem jobEnds_proved : Rows.JobEndsCardSaid :=
  Claim7.holds_tied_plain_at .later [] [.handle] true Rows.jobEndsCard.stood.harness true
    jobEndsFrame.row_holds (fun _ h => by cases h) (by kernel_rfl) (fun _ h => by cases h) jobEnds_row_tie rfl ⟨rfl, rfl⟩ (by kernel_rfl) rfl
    (fun f fn hf hfn => by
      obtain rfl : f = 11 := Option.some.inj ((show Tryd.prog.funcNamed "kinescope/kinlaw27.JobEnds" = some 11 by kernel_rfl).symm.trans hf) |>.symm
      obtain rfl : fn = Tryd.f11 := (Option.some.inj (Tryd.func11.symm.trans hfn)).symm
      exact ⟨by kernel_rfl, fun j t ht => by
        rw [jobEndsFrame.paramsHere] at ht
        rcases j with _ | j
        · obtain rfl : t = 3 := by simpa using ht.symm
          kernel_rfl
        · skip
          rcases j with _ | j
          · obtain rfl : t = 61 := by simpa using ht.symm
            kernel_rfl
          · skip
            rcases j with _ | j
            · obtain rfl : t = 73 := by simpa using ht.symm
              kernel_rfl
            · skip
              simp at ht⟩)
    (by kernel_rfl)
#print axioms jobEnds_proved
end Go.Proofs.YtabklmkdneoaaaaDoor
