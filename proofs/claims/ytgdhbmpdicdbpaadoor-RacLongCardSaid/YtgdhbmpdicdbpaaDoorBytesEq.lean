/- kinref.Bytes at like bytes: true. -/
import Derived.Test.YtgdhbmpdicdbpaaDoorRacNew
import Derived.Laws.IdiomStrings
import Derived.Laws.BytesArg
namespace Go.Proofs.YtgdhbmpdicdbpaaDoor

theorem conv_from {w : World} {x : Value} {bs : List UInt8} (h : From w 1 x bs.length (bs.map byteV)) : (convert 42 9 x).run Tryd.prog w = .ok (.string ⟨bs.toArray⟩) w := by
  obtain ⟨A, c, rfl, _, h2⟩ := h
  cases A with
  | none =>
    cases bs with
    | nil => exact run_convert_bytes_nil w _ _ Tryd.underlying42 Tryd.underlying5 _ _ _ Tryd.underlying9
    | cons a l =>
      obtain ⟨ad, h3, _⟩ := h2 (by simp)
      cases h3
  | some a =>
    refine run_convert_bytes_back w _ _ _ a c bs Tryd.underlying42 Tryd.underlying5 Tryd.underlying9 fun j hj => ?_
    obtain ⟨ad, h3, h4⟩ := h2 (by omega)
    injection h3 with h3
    subst h3
    exact h4 j _ (by simp [List.getElem?_eq_getElem hj, byteV])

theorem bytes_same {w : World} {x y : Value} {bs : List UInt8} (hx : From w 1 x bs.length (bs.map byteV)) (hy : From w 1 y bs.length (bs.map byteV)) :
    Calls Tryd.prog 19 #[x, y] w fun e w' => e = .returned (.bool true) ∧ w' = w := by
  have h1 := conv_from hx
  have h2 := conv_from hy
  obtain ⟨A, c, rfl, _⟩ := hx
  obtain ⟨A', c', rfl, _⟩ := hy
  go_enter Tryd.func19, Tryd.ntmps19
  go_wp2
  go_ret
  exact ⟨rfl, rfl⟩
end Go.Proofs.YtgdhbmpdicdbpaaDoor
