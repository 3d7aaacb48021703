/- The chapter's examples: first. -/
import Derived.Test.YtgdhbmpdicdbpaaAsks
import Derived.Test.YtgdhbmpdicdbpaaTwo
namespace Go.Proofs.Ytgdhbmpdicdbpaa
open Go.RowKit

theorem pok_first : POk first64 := by
  have h : ∀ c, c < 64 → first64.getD c 0 = 1024 := by
    intro c hc
    rw [List.getD_eq_getElem?_getD, first64, List.getElem?_replicate, if_pos hc]
    rfl
  exact ⟨List.length_replicate, fun c hc => by rw [h c hc]; omega, fun c hc => by rw [h c hc]; omega⟩
theorem ok_wr_new : Wr.new.Ok 0 := ⟨pok_first, ⟨by decide, by decide, by decide, by decide⟩⟩
theorem ok_rd_new (bs : List UInt8) : (Rd.new bs).Ok 4 := ⟨pok_first, ⟨by show 16777216 ≤ 4294967295; omega, by show 4294967295 ≤ 4294967295; omega, by have := pre_lt bs 4 (by omega); show pre bs 4 ≤ 4294967295; omega, by show 4 ≤ 4; omega⟩⟩

def fw1 : Wr := (Wr.new.bit 0 false).2
def fw2 : Wr := (fw1.bit 0 true).2
def fw3 : Wr := (wrM.kind (cut 7 0 3) fw2).2
def fw4 : Wr := (wrM.mode (-1) fw3).2
def fr0 : Rd := Rd.new []
def fr1 : Rd := (rdM.kind (cut 3 0 3) fr0).2
def fr2 : Rd := (rdM.part 9 fr1).2
theorem fx1 : chanceOf fw1.P 0 = 1056 := by decide +kernel
theorem fx2 : chanceOf fw2.P 0 = 1023 := by decide +kernel
theorem fx3 : (wrM.kind (cut 7 0 3) fw2).1 = 3 := by decide +kernel
theorem fx4 : (wrM.mode (-1) fw3).1 = 0 := by decide +kernel
theorem fx5 : (wrM.part (-20) fw4).1 = -15 := by decide +kernel
theorem fx6 : (rdM.kind (cut 3 0 3) fr0).1 = 0 := by decide +kernel
theorem fx7 : (rdM.part 9 fr1).1 = 0 := by decide +kernel
theorem fx8 : fr2.d.at_ - fr2.d.bs.length = 4 := by decide +kernel

theorem at_wr_blk {b : Nat} {w : World} {F : Nat → Prop} {s : Wr} (h : AtWr b w F s) : Blk w b 50 (modCells s.P (.pointer (some ⟨(h.choose), 0, none⟩))) := by
  obtain ⟨v, h1, _⟩ := h.choose_spec
  exact h1.blk
theorem wr_chance (b : Nat) (w : World) (F : Nat → Prop) (s : Wr) (c : Int) (h : AtWr b w F s) (hp : s.P.length = 64) :
    Calls Try.prog 16 #[.pointer (some ⟨b, 0, none⟩), .int .i64 c] w fun e w' => e = .returned (.int .i64 (chanceOf s.P c)) ∧ w = w' := by
  obtain ⟨eb, v, h1, _⟩ := h
  exact mod_chance b _ s.P _ c w h1.blk hp
theorem rd_chance (b : Nat) (w : World) (F : Nat → Prop) (s : Rd) (c : Int) (h : AtRd b w F s) (hp : s.P.length = 64) :
    Calls Try.prog 16 #[.pointer (some ⟨b, 0, none⟩), .int .i64 c] w fun e w' => e = .returned (.int .i64 (chanceOf s.P c)) ∧ w = w' := by
  obtain ⟨db, g, cap, h1, _⟩ := h
  exact mod_chance b _ s.P _ c w h1.blk hp
theorem xw_chance (b eb : Nat) (w : World) (F : Nat → Prop) (s : XWr) (c : Int) (h : AtXw b eb w F s) (hp : s.P.length = 64) :
    Calls Try.prog 17 #[.pointer (some ⟨b, 0, none⟩), .int .i64 c] w fun e w' => e = .returned (.int .i64 (chanceOf s.P c)) ∧ w = w' := by
  obtain ⟨v, h1, _⟩ := h
  exact cod_chance b _ _ _ s.P c w h1.blk hp
theorem xr_chance (b db : Nat) (w : World) (F : Nat → Prop) (s : XRd) (c : Int) (h : AtXr b db w F s) (hp : s.P.length = 64) :
    Calls Try.prog 17 #[.pointer (some ⟨b, 0, none⟩), .int .i64 c] w fun e w' => e = .returned (.int .i64 (chanceOf s.P c)) ∧ w = w' := by
  obtain ⟨g, cap, h1, _⟩ := h
  exact cod_chance b _ _ _ s.P c w h1.blk hp
theorem at_over (b : Nat) (w : World) (F : Nat → Prop) (s : Rd) (h : AtRd b w F s) (hp : s.P.length = 64) (hat : s.d.at_ ≤ 1000000000) :
    Calls Try.prog 14 #[.pointer (some ⟨b, 0, none⟩)] w fun e w' => e = .returned (.int .i64 (s.d.at_ - s.d.bs.length : Nat)) ∧ ∃ m, w' = w.drewN m := by
  obtain ⟨db, g, cap, h1, _⟩ := h
  exact rd_over b db g cap s w h1 hp hat
theorem only_drewN' {S : Nat → Prop} (w : World) (m : Nat) : Only S w (w.drewN m) := (Only.refl _ _).drewN m

/-- A new object: made above all that was there. -/
def NewAt {σ : Type} (At : Nat → World → (Nat → Prop) → σ → Prop) (w : World) (s : σ) (e : Ending) (w' : World) : Prop :=
  ∃ b F, e = .returned (.pointer (some ⟨b, 0, none⟩)) ∧ At b w' F s ∧ (∀ k, F k → w.heap.size ≤ k) ∧ Below w.heap.size w w'
theorem new_wr (w : World) : Calls Try.prog 18 #[] w (NewAt AtWr w Wr.new) :=
  (new_writer w).mono fun _ _ ⟨b, eb, v, h1, h2, h3, h4⟩ => ⟨b, _, h1, ⟨eb, v, h2, rfl⟩, h3, h4⟩
theorem new_rd (x : Value) (bs : List UInt8) (w : World) (hx : From w 1 x bs.length (bs.map byteV)) (hl : bs.length ≤ 1000000000) : Calls Try.prog 10 #[x] w (NewAt AtRd w (Rd.new bs)) :=
  (new_reader x bs w hx hl).mono fun _ _ ⟨b, db, g, cap, h1, h2, h3, h4, h5, h6⟩ => ⟨b, _, h1, ⟨db, g, cap, h2, rfl⟩, fun k hk => by rcases hk with rfl | rfl | rfl <;> assumption, h6⟩
/-- A new object of the document's, with the block of what it holds. -/
def NewAt2 {σ : Type} (At : Nat → Nat → World → (Nat → Prop) → σ → Prop) (w : World) (s : σ) (e : Ending) (w' : World) : Prop :=
  ∃ b eb F, e = .returned (.pointer (some ⟨b, 0, none⟩)) ∧ At b eb w' F s ∧ (∀ k, F k → w.heap.size ≤ k) ∧ Below w.heap.size w w'
theorem new_xw (w : World) : Calls Try.prog 20 #[] w (NewAt2 AtXw w XWr.new) :=
  (xnew_writer w).mono fun _ _ ⟨b, eb, v, h1, h2, h3, h4⟩ => ⟨b, eb, _, h1, ⟨v, h2, rfl⟩, h3, h4⟩
theorem new_xr (x : Value) (bs : List UInt8) (w : World) (hx : From w 1 x bs.length (bs.map byteV)) (hl : bs.length ≤ 1000000000) : Calls Try.prog 11 #[x] w (NewAt2 AtXr w (XRd.new bs)) :=
  (xnew_reader x bs w hx hl).mono fun _ _ ⟨b, db, g, cap, h1, h2, h3, h4, h5, h6⟩ => ⟨b, db, _, h1, ⟨g, cap, h2, rfl⟩, fun k hk => by rcases hk with rfl | rfl | rfl <;> assumption, h6⟩
theorem xr_over (b db : Nat) (w : World) (F : Nat → Prop) (s : XRd) (h : AtXr b db w F s) (hat : s.d.at_ ≤ 1000000000) :
    Calls Try.prog 15 #[.pointer (some ⟨db, 0, none⟩)] w fun e w' => e = .returned (.int .i64 (s.d.at_ - s.d.bs.length : Nat)) ∧ ∃ m, w' = w.drewN m := by
  obtain ⟨g, cap, h1, _⟩ := h
  exact rdec_over db g cap s.d w h1.dec hat
theorem xr_D {b db : Nat} {w : World} {F : Nat → Prop} {s : XRd} (h : AtXr b db w F s) : w.cell? ⟨b, 2, none⟩ = some (.pointer (some ⟨db, 0, none⟩)) := by
  obtain ⟨g, cap, h1, _⟩ := h
  rw [h1.blk.cell, cod_2]
theorem xw_E {b eb : Nat} {w : World} {F : Nat → Prop} {s : XWr} (h : AtXw b eb w F s) : w.cell? ⟨b, 1, none⟩ = some (.pointer (some ⟨eb, 0, none⟩)) := by
  obtain ⟨v, h1, _⟩ := h
  rw [h1.blk.cell, cod_1]

theorem below_of_moved {σ : Type} {At : World → (Nat → Prop) → σ → Prop} {B : Nat} {w w' : World} {F : Nat → Prop} {s : σ} (h : Moved At w F s w') (hB : B ≤ w.heap.size) (hF : ∀ k, F k → B ≤ k) : Below B w w' := by
  obtain ⟨F', _, o, _⟩ := h
  exact below_mono_only o hB (fun k hk hf => by have := hF k hf; omega)

set_option maxRecDepth 100000 in
set_option maxHeartbeats 1600000 in
theorem first_any (w : World) : Calls Try.prog 8 #[] w fun e w' => e = .returned (.bool true) ∧ Below w.heap.size w w' := by
  go_enter Try.func8, Try.ntmps8
  go_wp2_with fail
  refine (new_wr _).mono ?_
  rintro e w1 ⟨b, F, rfl, a1, f1, b1⟩
  have A1 := hid (And.intro a1 (And.intro f1 b1))
  clear a1 f1 b1
  go_wp2_with fail
  refine (new_rd _ [] _ ⟨none, 0, rfl, rfl, fun h => absurd rfl h⟩ (by simp)).mono ?_
  rintro e w2 ⟨rb, G, rfl, a2, f2, b2⟩
  have hT : TwoAt w.heap.size w (AtWr b) (AtRd rb) F G Wr.new fr0 w2 := by
    obtain ⟨a1, f1, b1⟩ := A1.out
    have hs1 := b1.size
    have hth := fun k hk => (wr_coder b).there _ F _ k a1 hk
    exact ⟨(wr_coder b).keep _ _ F (fun k => w1.heap.size ≤ k) _ a1 (Only.of_below_up b2) (fun k hk => by have := hth k hk; omega), a2, fun k hk hg => by have := hth k hk; have := f2 k hg; omega, f1, fun k hk => by have := f2 k hk; omega, b1.trans (b2.mono hs1), by have := b2.size; omega⟩
  have T := hid hT
  clear a2 f2 b2 hT
  go_wp2_with fail
  refine ((wr_coder b).bitN _ F _ 0 _ rfl (by omega) false 0 T.out.l ok_wr_new (by omega)).mono ?_
  rintro e w3 ⟨rfl, h3, k3⟩
  obtain ⟨F3, G3, hT3⟩ := T.out.left (rd_coder rb) h3
  have T3 := hid hT3
  have K3 := hid k3
  clear h3 k3 hT3
  go_wp2_with fail
  refine (wr_chance b _ F3 fw1 0 T3.out.l K3.out.P.len).mono ?_
  rintro e w' ⟨rfl, rfl⟩
  rw [fx1]
  go_wp2_with fail
  refine ((wr_coder b).bitN _ F3 fw1 0 _ rfl (by omega) true 3 T3.out.l K3.out (by omega)).mono ?_
  rintro e w4 ⟨rfl, h3, k3⟩
  obtain ⟨F4, G4, hT3⟩ := T3.out.left (rd_coder rb) h3
  have T4 := hid hT3
  have K4 := hid k3
  clear h3 k3 hT3
  go_wp2_with fail
  refine (wr_chance b _ F4 fw2 0 T4.out.l K4.out.P.len).mono ?_
  rintro e w' ⟨rfl, rfl⟩
  rw [fx2]
  go_wp2_with fail
  refine (kind_any b _ (wr_coder b) (wr_speaks b) 7 fw2 _ F4 6 T4.out.l K4.out (by omega)).mono ?_
  rintro e w5 ⟨rfl, h3⟩
  obtain ⟨F5, G5, hT3⟩ := T4.out.left (rd_coder rb) h3
  obtain ⟨n5, hn5, k5⟩ := (wr_coder b).okKind (cut 7 0 3) fw2 6 K4.out
  have T5 := hid hT3
  have K5 := hid (And.intro hn5 k5)
  clear h3 hn5 k5 hT3
  rw [fx3]
  go_wp2_with fail
  refine (mode_any b _ (wr_coder b) (wr_speaks b) (-1) fw3 _ F5 n5 T5.out.l K5.out.2 (by have := K5.out.1; omega)).mono ?_
  rintro e w6 ⟨rfl, h3⟩
  obtain ⟨F6, G6, hT3⟩ := T5.out.left (rd_coder rb) h3
  obtain ⟨n6, hn6, k6⟩ := (wr_coder b).okMode (-1) fw3 n5 K5.out.2
  have T6 := hid hT3
  have K6 := hid (And.intro hn6 k6)
  clear h3 hn6 k6 hT3
  rw [fx4]
  go_wp2_with fail
  refine (part_any b _ (wr_coder b) (wr_speaks b) (-20) fw4 _ F6 n6 T6.out.l K6.out.2 (by have := K5.out.1; have := K6.out.1; omega)).mono ?_
  rintro e w7 ⟨rfl, h3⟩
  obtain ⟨F7, G7, hT3⟩ := T6.out.left (rd_coder rb) h3
  have T7 := hid hT3
  clear h3 hT3
  rw [fx5]
  go_wp2_with fail
  refine (kind_any rb _ (rd_coder rb) (rd_speaks rb) 3 fr0 _ G7 4 T7.out.r (ok_rd_new []) (by omega)).mono ?_
  rintro e w8 ⟨rfl, h3⟩
  obtain ⟨F8, G8, hT3⟩ := T7.out.right (wr_coder b) h3
  obtain ⟨n8, hn8, k8⟩ := (rd_coder rb).okKind (cut 3 0 3) fr0 4 (ok_rd_new [])
  have T8 := hid hT3
  have K8 := hid (And.intro hn8 k8)
  clear h3 hn8 k8 hT3
  rw [fx6]
  go_wp2_with fail
  refine (part_any rb _ (rd_coder rb) (rd_speaks rb) 9 fr1 _ G8 n8 T8.out.r K8.out.2 (by have := K8.out.1; omega)).mono ?_
  rintro e w9 ⟨rfl, h3⟩
  obtain ⟨F9, G9, hT3⟩ := T8.out.right (wr_coder b) h3
  obtain ⟨n9, hn9, k9⟩ := (rd_coder rb).okPart 9 fr1 n8 K8.out.2
  have T9 := hid hT3
  have K9 := hid (And.intro hn9 (And.intro k9 K8.out.1))
  clear h3 hn9 k9 hT3
  rw [fx7]
  go_wp2_with fail
  refine (at_over rb _ G9 fr2 T9.out.r K9.out.2.1.P.len (by have h : fr2.d.at_ ≤ n9 := K9.out.2.1.d.at_; have := K9.out.1; have := K9.out.2.2; omega)).mono ?_
  rintro e w10 ⟨rfl, m, rfl⟩
  rw [fx8]
  go_wp2_with fail
  go_ret
  exact ⟨rfl, below_drewN' T9.out.bel m⟩
end Go.Proofs.Ytgdhbmpdicdbpaa
