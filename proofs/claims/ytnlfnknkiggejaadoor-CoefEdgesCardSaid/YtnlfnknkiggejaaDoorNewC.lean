/- New coders; what they tell of themselves. -/
import Derived.Test.YtnlfnknkiggejaaDoorModNew
import Derived.Test.YtnlfnknkiggejaaDoorCoder
import Derived.Test.YtnlfnknkiggejaaDoorTwo
namespace Go.Proofs.YtnlfnknkiggejaaDoor
open Go.RowKit
theorem pok_first : POk first64 := by
  have h : ∀ c, c < 64 → first64.getD c 0 = 1024 := by
    intro c hc
    rw [List.getD_eq_getElem?_getD, first64, List.getElem?_replicate, if_pos hc]
    rfl
  exact ⟨List.length_replicate, fun c hc => by rw [h c hc]; omega, fun c hc => by rw [h c hc]; omega⟩
theorem ok_wr_new : Wr.new.Ok 0 := ⟨pok_first, ⟨by decide, by decide, by decide, by decide⟩⟩
theorem ok_rd_new (bs : List UInt8) : (Rd.new bs).Ok 4 := ⟨pok_first, ⟨by show 16777216 ≤ 4294967295; omega, by show 4294967295 ≤ 4294967295; omega, by have := pre_lt bs 4 (by omega); show pre bs 4 ≤ 4294967295; omega, by show 4 ≤ 4; omega⟩⟩
theorem wr_chance (b : Nat) (w : World) (F : Nat → Prop) (s : Wr) (c : Int) (h : AtWr b w F s) (hp : s.P.length = 64) :
    Calls Tryd.prog 31 #[.pointer (some ⟨b, 0, none⟩), .int .i64 c] w fun e w' => e = .returned (.int .i64 (chanceOf s.P c)) ∧ w = w' := by
  obtain ⟨eb, v, h1, _⟩ := h
  exact mod_chance b _ s.P _ c w h1.blk hp
theorem at_over (b : Nat) (w : World) (F : Nat → Prop) (s : Rd) (h : AtRd b w F s) (hp : s.P.length = 64) (hat : s.d.at_ ≤ 1000000000) :
    Calls Tryd.prog 29 #[.pointer (some ⟨b, 0, none⟩)] w fun e w' => e = .returned (.int .i64 (s.d.at_ - s.d.bs.length : Nat)) ∧ ∃ m, w' = w.drewN m := by
  obtain ⟨db, g, cap, h1, _⟩ := h
  exact rd_over b db g cap s w h1 hp hat
def NewAt {σ : Type} (At : Nat → World → (Nat → Prop) → σ → Prop) (w : World) (s : σ) (e : Ending) (w' : World) : Prop :=
  ∃ b F, e = .returned (.pointer (some ⟨b, 0, none⟩)) ∧ At b w' F s ∧ (∀ k, F k → w.heap.size ≤ k) ∧ Below w.heap.size w w'
theorem new_wr (w : World) : Calls Tryd.prog 14 #[] w (NewAt AtWr w Wr.new) :=
  (new_writer w).mono fun _ _ ⟨b, eb, v, h1, h2, h3, h4⟩ => ⟨b, _, h1, ⟨eb, v, h2, rfl⟩, h3, h4⟩
theorem new_rd (x : Value) (bs : List UInt8) (w : World) (hx : From w 1 x bs.length (bs.map byteV)) (hl : bs.length ≤ 140737488355328) : Calls Tryd.prog 25 #[x] w (NewAt AtRd w (Rd.new bs)) :=
  (new_reader x bs w hx hl).mono fun _ _ ⟨b, db, g, cap, h1, h2, h3, h4, h5, h6⟩ => ⟨b, _, h1, ⟨db, g, cap, h2, rfl⟩, fun k hk => by rcases hk with rfl | rfl | rfl <;> assumption, h6⟩
def NewAt2 {σ : Type} (At : Nat → Nat → World → (Nat → Prop) → σ → Prop) (w : World) (s : σ) (e : Ending) (w' : World) : Prop :=
  ∃ b eb F, e = .returned (.pointer (some ⟨b, 0, none⟩)) ∧ At b eb w' F s ∧ (∀ k, F k → w.heap.size ≤ k) ∧ Below w.heap.size w w'
theorem new_xw (w : World) : Calls Tryd.prog 16 #[] w (NewAt2 AtXw w XWr.new) :=
  (xnew_writer w).mono fun _ _ ⟨b, eb, v, h1, h2, h3, h4⟩ => ⟨b, eb, _, h1, ⟨v, h2, rfl⟩, h3, h4⟩
theorem new_xr (x : Value) (bs : List UInt8) (w : World) (hx : From w 1 x bs.length (bs.map byteV)) (hl : bs.length ≤ 1000000000) : Calls Tryd.prog 28 #[x] w (NewAt2 AtXr w (XRd.new bs)) :=
  (xnew_reader x bs w hx hl).mono fun _ _ ⟨b, db, g, cap, h1, h2, h3, h4, h5, h6⟩ => ⟨b, db, _, h1, ⟨g, cap, h2, rfl⟩, fun k hk => by rcases hk with rfl | rfl | rfl <;> assumption, h6⟩
theorem xr_over (b db : Nat) (w : World) (F : Nat → Prop) (s : XRd) (h : AtXr b db w F s) (hat : s.d.at_ ≤ 1000000000) :
    Calls Tryd.prog 30 #[.pointer (some ⟨db, 0, none⟩)] w fun e w' => e = .returned (.int .i64 (s.d.at_ - s.d.bs.length : Nat)) ∧ ∃ m, w' = w.drewN m := by
  obtain ⟨g, cap, h1, _⟩ := h
  exact rdec_over db g cap s.d w h1.dec hat
theorem xr_D {b db : Nat} {w : World} {F : Nat → Prop} {s : XRd} (h : AtXr b db w F s) : w.cell? ⟨b, 2, none⟩ = some (.pointer (some ⟨db, 0, none⟩)) := by
  obtain ⟨g, cap, h1, _⟩ := h
  rw [h1.blk.cell, cod_2]
theorem xw_E {b eb : Nat} {w : World} {F : Nat → Prop} {s : XWr} (h : AtXw b eb w F s) : w.cell? ⟨b, 1, none⟩ = some (.pointer (some ⟨eb, 0, none⟩)) := by
  obtain ⟨v, h1, _⟩ := h
  rw [h1.blk.cell, cod_1]
theorem below_of_moved {σ : Type} {At : World → (Nat → Prop) → σ → Prop} {B : Nat} {w w' : World} {F : Nat → Prop} {s : σ} (h : Moved At w F s w') (hB : B ≤ w.heap.size) (hF : ∀ k, F k → B ≤ k) : Below B w w' := by
  obtain ⟨F', _, o, _⟩ := h
  exact below_mono_only o hB (fun k hk hf => by have := hF k hf; omega)
theorem wr_endA (b : Nat) (w : World) (F : Nat → Prop) (s : Wr) (n : Nat) (h : AtWr b w F s) (ho : s.Ok n) (hn : n ≤ 1000000000) :
    Calls Tryd.prog 23 #[.pointer (some ⟨b, 0, none⟩)] w fun y w' => ∃ g cap, y = .returned (.slice (some ⟨g, 0, none⟩) s.e.bytes.length cap) ∧ w'.ownsRow w.heap.size 5 1 (.slice (some ⟨g, 0, none⟩) s.e.bytes.length cap) s.e.bytes.length (s.e.bytes.map byteV) ∧ Below w.heap.size w w' := by
  obtain ⟨eb, v, h1, _⟩ := h
  exact wr_end b eb v s w h1 ho.P.len (by have := ho.e.len; omega) ho.e.low
end Go.Proofs.YtnlfnknkiggejaaDoor
