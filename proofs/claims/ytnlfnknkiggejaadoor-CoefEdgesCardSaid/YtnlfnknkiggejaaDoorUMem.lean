/- Memory words of chapter 4: bytes with their capacity; units; errors with a path. -/
import Derived.Test.YtnlfnknkiggejaaDoorCommon
import Derived.Test.YtnlfnknkiggejaaDoorUSpec
namespace Go.Proofs.YtnlfnknkiggejaaDoor
open Go.RowKit

/-! ### Bytes -/
/-- The slice x reads as these bytes, and may be cut. -/
def Byt (w : World) (x : Value) (bs : List UInt8) : Prop :=
  ∃ A c, x = .slice A bs.length c ∧ bs.length ≤ c ∧ (bs ≠ [] → ∃ b off, A = some ⟨b, off, none⟩ ∧ b < w.heap.size ∧ ∀ (j : Nat) (u : UInt8), bs[j]? = some u → w.cell? ⟨b, off + j, none⟩ = some (.int .u8 u.toNat))
theorem addr_add (b o j : Nat) : (⟨b, o, none⟩ : Addr).add j = ⟨b, o + j, none⟩ := by unfold Addr.add; split <;> simp_all
section
variable {w w' : World} {x : Value} {bs : List UInt8}
theorem Byt.from_ (h : Byt w x bs) : From w 1 x bs.length (bs.map byteV) := by
  obtain ⟨A, c, rfl, _, hc⟩ := h
  refine ⟨A, c, rfl, by simp, fun h0 => ?_⟩
  obtain ⟨b, off, rfl, hb, hcell⟩ := hc (by intro e; rw [e] at h0; exact h0 rfl)
  refine ⟨_, rfl, fun j u hu => ?_⟩
  rw [List.getElem?_map] at hu
  obtain ⟨q, hq, rfl⟩ := Option.map_eq_some_iff.1 hu
  rw [addr_add]
  exact hcell j q hq
theorem Byt.keep (h : Byt w x bs) (hs : w.heap.size ≤ w'.heap.size) (hk : ∀ k, k < w.heap.size → w'.heap[k]? = w.heap[k]?) : Byt w' x bs := by
  obtain ⟨A, c, h1, h2, h3⟩ := h
  refine ⟨A, c, h1, h2, fun h0 => ?_⟩
  obtain ⟨b, off, h4, h5, h6⟩ := h3 h0
  exact ⟨b, off, h4, by omega, fun j u hu => (World.cell?_of_block (w := w) (a := ⟨b, off + j, none⟩) (hk b h5)).trans (h6 j u hu)⟩
theorem Byt.below (h : Byt w x bs) (hb : Below w.heap.size w w') : Byt w' x bs := h.keep hb.size hb.block
theorem Byt.drew (h : Byt w x bs) : Byt w.drew x bs := h
theorem Byt.drewN (h : Byt w x bs) (n : Nat) : Byt (w.drewN n) x bs := h
theorem Byt.alloc (h : Byt w x bs) (o : Obj) : Byt (w.alloc o) x bs := h.below ((Below.refl _ _).alloc (Nat.le_refl _) o)
/-- A store elsewhere. -/
theorem Byt.only {S : Nat → Prop} (h : Byt w x bs) (ho : Only S w w') (hx : ∀ k, x.ownBlock = some k → ¬ S k) : Byt w' x bs := by
  obtain ⟨A, c, rfl, h2, h3⟩ := h
  refine ⟨A, c, rfl, h2, fun h0 => ?_⟩
  obtain ⟨b, off, rfl, h5, h6⟩ := h3 h0
  exact ⟨b, off, rfl, Nat.lt_of_lt_of_le h5 ho.size, fun j u hu => (World.cell?_of_block (w := w) (a := ⟨b, off + j, none⟩) (ho.block b h5 (hx b rfl))).trans (h6 j u hu)⟩
theorem Byt.of_own {base n : Nat} (h : w.ownsRow base 5 1 x n (bs.map byteV)) (hn : bs.length = n) : Byt w x bs := by
  subst hn
  rcases h.2 with ⟨rfl, h0⟩ | ⟨g, cap, cur, rfl, _, hg, hle, _⟩
  · exact ⟨none, 0, by rw [h0], by omega, fun hne => absurd (List.eq_nil_of_length_eq_zero h0) hne⟩
  · refine ⟨some ⟨g, 0, none⟩, cap, rfl, hle, fun _ => ⟨g, 0, rfl, (Array.getElem?_eq_some_iff.1 hg).1, fun j u hu => ?_⟩⟩
    have hj : j < bs.length := (List.getElem?_eq_some_iff.1 hu).1
    rw [Nat.zero_add]
    rw [h.cellAt j (by omega), List.getElem?_map, hu]
    rfl
/-- What a cut from k on gives (the model keeps the address where nothing is left of the capacity). -/
theorem Byt.drop {A : Option Addr} {c k : Nat} (h : Byt w (.slice A bs.length c) bs) (hk : k < bs.length) : ∃ b off, A = some ⟨b, off, none⟩ ∧ b < w.heap.size ∧ Byt w (.slice (some ⟨b, off + k, none⟩) (bs.length - k) (c - k)) (bs.drop k) := by
  obtain ⟨A', c', e, hle, hc⟩ := h
  injection e with e1 e2 e3
  subst e1 e3
  obtain ⟨b, off, rfl, hb, hcell⟩ := hc (by intro e; rw [e] at hk; simp at hk)
  refine ⟨b, off, rfl, hb, _, _, by rw [List.length_drop], by rw [List.length_drop]; omega, fun _ => ⟨b, off + k, rfl, hb, fun j u hu => ?_⟩⟩
  rw [List.getElem?_drop] at hu
  rw [Nat.add_assoc]
  exact hcell (k + j) u hu
theorem Byt.take {A : Option Addr} {c k : Nat} (h : Byt w (.slice A bs.length c) bs) (hk : k ≤ bs.length) : Byt w (.slice A k c) (bs.take k) := by
  obtain ⟨A', c', e, hle, hc⟩ := h
  injection e with e1 e2 e3
  subst e1 e3
  refine ⟨A, c, by rw [List.length_take, Nat.min_eq_left hk], by rw [List.length_take]; omega, fun h0 => ?_⟩
  obtain ⟨b, off, rfl, hb, hcell⟩ := hc (by rintro rfl; simp at h0)
  refine ⟨b, off, rfl, hb, fun j u hu => hcell j u ?_⟩
  rw [List.getElem?_take] at hu
  split at hu
  · exact hu
  · cases hu
theorem Byt.dropAt {b off c k : Nat} (h : Byt w (.slice (some ⟨b, off, none⟩) bs.length c) bs) (hk : k < bs.length) : Byt w (.slice (some ⟨b, off + k, none⟩) (bs.length - k) (c - k)) (bs.drop k) := by
  obtain ⟨b', off', e, _, h2⟩ := h.drop hk
  injection e with e
  injection e with e1 e2
  subst e1 e2
  exact h2
theorem Byt.form (h : Byt w x bs) : ∃ A c, x = .slice A bs.length c ∧ bs.length ≤ c := by
  obtain ⟨A, c, h1, h2, _⟩ := h
  exact ⟨A, c, h1, h2⟩
theorem Byt.cell {b off c : Nat} (h : Byt w (.slice (some ⟨b, off, none⟩) bs.length c) bs) (j : Nat) (u : UInt8) (hu : bs[j]? = some u) : w.cell? ⟨b, off + j, none⟩ = some (.int .u8 u.toNat) := by
  obtain ⟨A', c', e, hle, hc⟩ := h
  injection e with e1 e2 e3
  obtain ⟨b', off', e4, hb, hcell⟩ := hc (by rintro rfl; simp at hu)
  rw [e4] at e1
  injection e1 with e1
  injection e1 with e5 e6 e7
  subst e5 e6
  exact hcell j u hu
theorem Byt.at_ {A : Option Addr} {c : Nat} (h : Byt w (.slice A bs.length c) bs) {j : Nat} (hj : j < bs.length) : ∃ b off u, A = some ⟨b, off, none⟩ ∧ b < w.heap.size ∧ bs[j]? = some u ∧ w.cell? ⟨b, off + j, none⟩ = some (.int .u8 u.toNat) := by
  obtain ⟨A', c', e, hle, hc⟩ := h
  injection e with e1 e2 e3
  subst e1
  obtain ⟨b, off, e4, hb, hcell⟩ := hc (by rintro rfl; simp at hj)
  exact ⟨b, off, bs[j], e4, hb, List.getElem?_eq_getElem hj, hcell j _ (List.getElem?_eq_getElem hj)⟩
end
end Go.Proofs.YtnlfnknkiggejaaDoor
