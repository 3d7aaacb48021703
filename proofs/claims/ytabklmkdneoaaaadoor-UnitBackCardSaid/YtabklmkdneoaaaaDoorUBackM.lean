/- UnitBack: few, made: the walks. -/
import Derived.Test.YtabklmkdneoaaaaDoorUBackP
import Derived.Test.YtabklmkdneoaaaaDoorOpenGen
import Derived.Test.YtabklmkdneoaaaaDoorULawSplits
import Derived.Lib.MinMax
import Derived.Deep.Light
namespace Go.Proofs.YtabklmkdneoaaaaDoor
open Go.RowKit

theorem BytR.below {w w' : World} {bs : List UInt8} {cs : List Value} (hb : Below w.heap.size w w') (h : BytR w bs cs) : BytR w' bs cs := by
  obtain ⟨v, h1, h2, h3⟩ := h
  exact ⟨v, h1, h2.below hb, h3⟩
/-- The slice x has these slices of bytes. -/
def Byts (w : World) (x : Value) (ds : List (List UInt8)) : Prop := Els w 1 (BytR w) x ds
theorem Byts.below {w w' : World} {x : Value} {ds : List (List UInt8)} (h : Byts w x ds) (hb : Below w.heap.size w w') : Byts w' x ds :=
  (Els.below h hb).mono fun _ _ => BytR.below hb
theorem Byts.at_ {w : World} {A : Option Addr} {n c : Nat} {ds : List (List UInt8)} (h : Byts w (.slice A n c) ds) {i : Nat} {d : List UInt8} (hd : ds[i]? = some d) :
    ∃ b off v, A = some ⟨b, off, none⟩ ∧ b < w.heap.size ∧ w.cell? ⟨b, off + i, none⟩ = some v ∧ Byt w v d ∧ d.length ≤ maxLen := by
  obtain ⟨b, off, cs, h1, h2, h3, ⟨v, rfl, h4, h5⟩, h6⟩ := Els.at_ h hd
  have := h6 0 v rfl
  rw [Nat.mul_one, Nat.add_zero] at this
  exact ⟨b, off, v, h1, h2, this, h4, h5⟩
/-- The slice x has these ints. -/
def Ints (w : World) (x : Value) (l : List Int) : Prop := Els w 1 IntR x l
theorem Ints.below {w w' : World} {x : Value} {l : List Int} (h : Ints w x l) (hb : Below w.heap.size w w') : Ints w' x l := Els.below h hb
theorem Ints.at_ {w : World} {A : Option Addr} {n c : Nat} {l : List Int} (h : Ints w (.slice A n c) l) {i : Nat} {z : Int} (hd : l[i]? = some z) :
    ∃ b off, A = some ⟨b, off, none⟩ ∧ b < w.heap.size ∧ w.cell? ⟨b, off + i, none⟩ = some (.int .i64 z) ∧ (Lit.int .i64 z).wf = true := by
  obtain ⟨b, off, cs, h1, h2, h3, ⟨rfl, h5⟩, h6⟩ := Els.at_ h hd
  have := h6 0 _ rfl
  rw [Nat.mul_one, Nat.add_zero] at this
  exact ⟨b, off, h1, h2, this, h5⟩

/-! ### few -/
def fewTo (ds : List (List UInt8)) (j : Nat) : Nat := ((ds.take j).map fun d => min d.length 20001).sum
theorem fewTo_succ {ds : List (List UInt8)} {j : Nat} {d : List UInt8} (h : ds[j]? = some d) : fewTo ds (j + 1) = fewTo ds j + min d.length 20001 := by
  unfold fewTo
  rw [List.take_add_one, h]
  simp
set_option maxRecDepth 100000 in
theorem fewTo_le (ds : List (List UInt8)) (j : Nat) : fewTo ds j ≤ j * 20001 := by
  induction j with
  | zero => simp [fewTo]
  | succ j ih =>
    cases h : ds[j]? with
    | none =>
      have : ds.take (j + 1) = ds.take j := by
        rw [List.take_add_one, h]; simp
      unfold fewTo at *
      rw [this]
      omega
    | some d => rw [fewTo_succ h]; omega
def fewOk (ds : List (List UInt8)) : Bool := decide (ds.length ≤ 200) && decide (fewTo ds (min ds.length 200) ≤ 20000)
set_option maxRecDepth 100000 in
set_option maxHeartbeats 1000000 in
theorem few_any (x : Value) (ds : List (List UInt8)) (w : World) (hx : Byts w x ds) :
    Calls Tryd.prog 39 #[x] w fun e w' => e = .returned (.bool (fewOk ds)) ∧ w' = w := by
  obtain ⟨A, c, rfl, hc⟩ := Els.form hx
  have X := hid hx
  clear hx hc
  go_enter Tryd.func39, Tryd.ntmps39
  go_wp2_with fail
  go_loopg [3, 4] (min ds.length 200) (fun k nv iv wr => wr = w ∧ ∃ j : Nat, j + k = min ds.length 200 ∧ iv = .int .i64 j ∧ nv = .int .i64 (fewTo ds j))
  case atStart => exact ⟨rfl, 0, by omega, rfl, rfl⟩
  case round =>
    obtain ⟨rfl, j, hj, rfl, rfl⟩ := hrel
    by_cases hlt : j < min ds.length 200
    · obtain ⟨d, hd⟩ : ∃ d, ds[j]? = some d := ⟨ds[j]'(by omega), List.getElem?_eq_getElem (by omega)⟩
      obtain ⟨b, off, v, rfl, _, hcell, hv, hdl⟩ := X.out.at_ hd
      obtain ⟨A5, c5, rfl, hc5⟩ := hv.form
      have d1 : decide ((j : Int) < (ds.length : Int)) = true := by simp; omega
      have d2 : decide ((j : Int) < 200) = true := by simp; omega
      have k0 : (0 : Int) ≤ (j : Int) := by omega
      have k1 : (j : Int) < (ds.length : Int) := by omega
      have hs := fewTo_succ hd
      have hle := fewTo_le ds j
      have HH := hid (And.intro hs (And.intro hle (And.intro hj hlt)))
      clear hs hle hj hd hv hc5
      go_wp2_with fail
      obtain ⟨hs, hle, hj, hlt⟩ := HH.out
      go_roundg (gk - 1)
      case measure => omega
      case rel =>
        refine ⟨rfl, j + 1, by omega, by go_num, ?_⟩
        rw [hs]
        have hj2 : (fewTo ds j : Int) ≤ 200 * 20001 := by omega
        rw [IntWalk.wrap64_in _ (by omega)]
        have hm : min (d.length : Int) 20001 = ((min d.length 20001 : Nat) : Int) := by omega
        rw [hm]
        simp
    · have hge : min ds.length 200 ≤ j := by omega
      have hj2 : j = min ds.length 200 := by omega
      have hn : (ds.length ≤ j ∧ decide ((j : Int) < (ds.length : Int)) = false) ∨ (j < ds.length ∧ decide ((j : Int) < (ds.length : Int)) = true ∧ decide ((j : Int) < 200) = false) := by simp; omega
      have hok : fewOk ds = (decide ((ds.length : Int) ≤ 200) && decide ((fewTo ds j : Int) ≤ 20000)) := by
        unfold fewOk
        rw [← hj2]
        congr 1 <;> simp <;> omega
      have HO := hid hok
      clear hlt hge hj hj2 hok
      rcases hn with ⟨hn0, hn⟩ | ⟨hn0, hn, hn2⟩
      all_goals
        go_wp2_with fail
        all_goals
          go_ret
          refine ⟨?_, rfl⟩
          rw [HO.out]
          refine congrArg Ending.returned (congrArg Value.bool ?_)
          go_light
          rw [Bool.eq_iff_iff]
          simp [*]
          try omega
end Go.Proofs.YtabklmkdneoaaaaDoor
