/- Parts: XUMem, XIntsSame, XErrAs, XErrSame. -/
import Derived.Test.YtkkgpdejmcpcpaaGreatDoorM01
import Derived.BigQuiet
import Derived.Test.YtkkgpdejmcpcpaaGreatDoorProg
import Derived.LaidEql
import Derived.Stop.Asserts
import Derived.RowKitTokens
import Derived.Deep.RegionHeld3
/- Memory words of chapter 4: bytes with their capacity; units; errors with a path. -/
namespace Go.Proofs.YtkkgpdejmcpcpaaGreatDoor
open Go.RowKit

/-! ### Bytes -/
/-- The slice x reads as these bytes, and may be cut. -/
def Byt (w : World) (x : Value) (bs : List UInt8) : Prop :=
  ∃ A c, x = .slice A bs.length c ∧ bs.length ≤ c ∧ (bs ≠ [] → ∃ b off, A = some ⟨b, off, none⟩ ∧ b < w.heap.size ∧ ∀ (j : Nat) (u : UInt8), bs[j]? = some u → w.cell? ⟨b, off + j, none⟩ = some (.int .u8 u.toNat))
theorem addr_add (b o j : Nat) : (⟨b, o, none⟩ : Addr).add j = ⟨b, o + j, none⟩ := by unfold Addr.add; split <;> simp_all
section
variable {w w' : World} {x : Value} {bs : List UInt8}
theorem Byt.from_ (h : Byt w x bs) : From w 1 x bs.length (bs.map byteV) := by
  obtain ⟨A, c, rfl, _, hc⟩ := h
  refine ⟨A, c, rfl, by simp, fun h0 => ?_⟩
  obtain ⟨b, off, rfl, hb, hcell⟩ := hc (by intro e; rw [e] at h0; exact h0 rfl)
  refine ⟨_, rfl, fun j u hu => ?_⟩
  rw [List.getElem?_map] at hu
  obtain ⟨q, hq, rfl⟩ := Option.map_eq_some_iff.1 hu
  rw [addr_add]
  exact hcell j q hq
theorem Byt.keep (h : Byt w x bs) (hs : w.heap.size ≤ w'.heap.size) (hk : ∀ k, k < w.heap.size → w'.heap[k]? = w.heap[k]?) : Byt w' x bs := by
  obtain ⟨A, c, h1, h2, h3⟩ := h
  refine ⟨A, c, h1, h2, fun h0 => ?_⟩
  obtain ⟨b, off, h4, h5, h6⟩ := h3 h0
  exact ⟨b, off, h4, by omega, fun j u hu => (World.cell?_of_block (w := w) (a := ⟨b, off + j, none⟩) (hk b h5)).trans (h6 j u hu)⟩
theorem Byt.below (h : Byt w x bs) (hb : Below w.heap.size w w') : Byt w' x bs := h.keep hb.size hb.block
theorem Byt.drew (h : Byt w x bs) : Byt w.drew x bs := h
theorem Byt.drewN (h : Byt w x bs) (n : Nat) : Byt (w.drewN n) x bs := h
theorem Byt.alloc (h : Byt w x bs) (o : Obj) : Byt (w.alloc o) x bs := h.below ((Below.refl _ _).alloc (Nat.le_refl _) o)
/-- A store elsewhere. -/
theorem Byt.only {S : Nat → Prop} (h : Byt w x bs) (ho : Only S w w') (hx : ∀ k, x.ownBlock = some k → ¬ S k) : Byt w' x bs := by
  obtain ⟨A, c, rfl, h2, h3⟩ := h
  refine ⟨A, c, rfl, h2, fun h0 => ?_⟩
  obtain ⟨b, off, rfl, h5, h6⟩ := h3 h0
  exact ⟨b, off, rfl, Nat.lt_of_lt_of_le h5 ho.size, fun j u hu => (World.cell?_of_block (w := w) (a := ⟨b, off + j, none⟩) (ho.block b h5 (hx b rfl))).trans (h6 j u hu)⟩
theorem Byt.of_own {base n : Nat} (h : w.ownsRow base 5 1 x n (bs.map byteV)) (hn : bs.length = n) : Byt w x bs := by
  subst hn
  rcases h.2 with ⟨rfl, h0⟩ | ⟨g, cap, cur, rfl, _, hg, hle, _⟩
  · exact ⟨none, 0, by rw [h0], by omega, fun hne => absurd (List.eq_nil_of_length_eq_zero h0) hne⟩
  · refine ⟨some ⟨g, 0, none⟩, cap, rfl, hle, fun _ => ⟨g, 0, rfl, (Array.getElem?_eq_some_iff.1 hg).1, fun j u hu => ?_⟩⟩
    have hj : j < bs.length := (List.getElem?_eq_some_iff.1 hu).1
    rw [Nat.zero_add]
    rw [h.cellAt j (by omega), List.getElem?_map, hu]
    rfl
/-- What a cut from k on gives (the model keeps the address where nothing is left of the capacity). -/
theorem Byt.drop {A : Option Addr} {c k : Nat} (h : Byt w (.slice A bs.length c) bs) (hk : k < bs.length) : ∃ b off, A = some ⟨b, off, none⟩ ∧ b < w.heap.size ∧ Byt w (.slice (some ⟨b, off + k, none⟩) (bs.length - k) (c - k)) (bs.drop k) := by
  obtain ⟨A', c', e, hle, hc⟩ := h
  injection e with e1 e2 e3
  subst e1 e3
  obtain ⟨b, off, rfl, hb, hcell⟩ := hc (by intro e; rw [e] at hk; simp at hk)
  refine ⟨b, off, rfl, hb, _, _, by rw [List.length_drop], by rw [List.length_drop]; omega, fun _ => ⟨b, off + k, rfl, hb, fun j u hu => ?_⟩⟩
  rw [List.getElem?_drop] at hu
  rw [Nat.add_assoc]
  exact hcell (k + j) u hu
theorem Byt.take {A : Option Addr} {c k : Nat} (h : Byt w (.slice A bs.length c) bs) (hk : k ≤ bs.length) : Byt w (.slice A k c) (bs.take k) := by
  obtain ⟨A', c', e, hle, hc⟩ := h
  injection e with e1 e2 e3
  subst e1 e3
  refine ⟨A, c, by rw [List.length_take, Nat.min_eq_left hk], by rw [List.length_take]; omega, fun h0 => ?_⟩
  obtain ⟨b, off, rfl, hb, hcell⟩ := hc (by rintro rfl; simp at h0)
  refine ⟨b, off, rfl, hb, fun j u hu => hcell j u ?_⟩
  rw [List.getElem?_take] at hu
  split at hu
  · exact hu
  · cases hu
theorem Byt.dropAt {b off c k : Nat} (h : Byt w (.slice (some ⟨b, off, none⟩) bs.length c) bs) (hk : k < bs.length) : Byt w (.slice (some ⟨b, off + k, none⟩) (bs.length - k) (c - k)) (bs.drop k) := by
  obtain ⟨b', off', e, _, h2⟩ := h.drop hk
  injection e with e
  injection e with e1 e2
  subst e1 e2
  exact h2
theorem Byt.form (h : Byt w x bs) : ∃ A c, x = .slice A bs.length c ∧ bs.length ≤ c := by
  obtain ⟨A, c, h1, h2, _⟩ := h
  exact ⟨A, c, h1, h2⟩
theorem Byt.cell {b off c : Nat} (h : Byt w (.slice (some ⟨b, off, none⟩) bs.length c) bs) (j : Nat) (u : UInt8) (hu : bs[j]? = some u) : w.cell? ⟨b, off + j, none⟩ = some (.int .u8 u.toNat) := by
  obtain ⟨A', c', e, hle, hc⟩ := h
  injection e with e1 e2 e3
  obtain ⟨b', off', e4, hb, hcell⟩ := hc (by rintro rfl; simp at hu)
  rw [e4] at e1
  injection e1 with e1
  injection e1 with e5 e6 e7
  subst e5 e6
  exact hcell j u hu
theorem Byt.at_ {A : Option Addr} {c : Nat} (h : Byt w (.slice A bs.length c) bs) {j : Nat} (hj : j < bs.length) : ∃ b off u, A = some ⟨b, off, none⟩ ∧ b < w.heap.size ∧ bs[j]? = some u ∧ w.cell? ⟨b, off + j, none⟩ = some (.int .u8 u.toNat) := by
  obtain ⟨A', c', e, hle, hc⟩ := h
  injection e with e1 e2 e3
  subst e1
  obtain ⟨b, off, e4, hb, hcell⟩ := hc (by rintro rfl; simp at hj)
  exact ⟨b, off, bs[j], e4, hb, List.getElem?_eq_getElem hj, hcell j _ (List.getElem?_eq_getElem hj)⟩
end
end Go.Proofs.YtkkgpdejmcpcpaaGreatDoor

/- kinref.Ints: two lists of ints that are alike. -/
namespace Go.Proofs.YtkkgpdejmcpcpaaGreatDoor
open Go.RowKit

/-- The slice x reads as these ints. -/
def Nums (w : World) (x : Value) (l : List Int) : Prop :=
  ∃ A c, x = .slice A l.length c ∧ l.length ≤ c ∧ (l ≠ [] → ∃ b off, A = some ⟨b, off, none⟩ ∧ b < w.heap.size ∧ ∀ (i : Nat) (v : Int), l[i]? = some v → w.cell? ⟨b, off + i, none⟩ = some (.int .i64 v))
def intV (z : Int) : Value := .int .i64 z
section
variable {w w' : World} {x : Value} {l : List Int}
theorem Nums.form (h : Nums w x l) : ∃ A c, x = .slice A l.length c ∧ l.length ≤ c := by
  obtain ⟨A, c, h1, h2, _⟩ := h
  exact ⟨A, c, h1, h2⟩
theorem Nums.below (h : Nums w x l) (hb : Below w.heap.size w w') : Nums w' x l := by
  obtain ⟨A, c, h1, h2, h3⟩ := h
  refine ⟨A, c, h1, h2, fun hne => ?_⟩
  obtain ⟨b, off, h4, h5, h6⟩ := h3 hne
  exact ⟨b, off, h4, Nat.lt_of_lt_of_le h5 hb.size, fun i v hv => (World.cell?_of_block (w := w) (a := ⟨b, off + i, none⟩) (hb.block b h5)).trans (h6 i v hv)⟩
theorem Nums.at_ {A : Option Addr} {n c : Nat} (h : Nums w (.slice A n c) l) {i : Nat} {v : Int} (hv : l[i]? = some v) : ∃ b off, A = some ⟨b, off, none⟩ ∧ b < w.heap.size ∧ w.cell? ⟨b, off + i, none⟩ = some (.int .i64 v) := by
  obtain ⟨A', c', e, _, h3⟩ := h
  injection e with e1 e2 e3
  subst e1
  obtain ⟨b, off, h4, h5, h6⟩ := h3 (by rintro rfl; simp at hv)
  exact ⟨b, off, h4, h5, h6 i v hv⟩
theorem Nums.of_own {base n : Nat} {t : TypeId} (h : w.ownsRow base t 1 x n (l.map intV)) (hn : l.length = n) : Nums w x l := by
  subst hn
  rcases h.2 with ⟨rfl, h0⟩ | ⟨g, cap, cur, rfl, _, hg, hle, _⟩
  · exact ⟨none, 0, by rw [h0], by omega, fun hne => absurd (List.eq_nil_of_length_eq_zero h0) hne⟩
  · refine ⟨some ⟨g, 0, none⟩, cap, rfl, hle, fun _ => ⟨g, 0, rfl, (Array.getElem?_eq_some_iff.1 hg).1, fun i v hv => ?_⟩⟩
    have hi := (List.getElem?_eq_some_iff.1 hv).1
    rw [Nat.zero_add]
    exact (h.cellAt i (by omega)).trans (by rw [List.getElem?_map, hv]; rfl)
theorem Nums.from_ (h : Nums w x l) : From w 1 x l.length (l.map intV) := by
  obtain ⟨A, c, rfl, _, hc⟩ := h
  refine ⟨A, c, rfl, by simp, fun h0 => ?_⟩
  obtain ⟨b, off, rfl, hb, hcell⟩ := hc (by intro e; rw [e] at h0; exact h0 rfl)
  refine ⟨_, rfl, fun j u hu => ?_⟩
  rw [addr_add]
  rw [List.getElem?_map] at hu
  cases hj : l[j]? with
  | none => rw [hj] at hu; cases hu
  | some v => rw [hj] at hu; injection hu with hu; subst hu; exact hcell j v hj
end
set_option maxRecDepth 100000 in
set_option maxHeartbeats 1000000 in
theorem ints_same (x y : Value) (l : List Int) (w : World) (hx : Nums w x l) (hy : Nums w y l) (hl : l.length ≤ 1000000) :
    Calls Tryz.prog 44 #[x, y] w fun e w' => e = .returned (.bool true) ∧ Below w.heap.size w w' := by
  obtain ⟨A1, c1, rfl, _⟩ := hx.form
  obtain ⟨A2, c2, rfl, _⟩ := hy.form
  have H := hid (And.intro hx (And.intro hy hl))
  clear hx hy hl
  go_enter Tryz.func44, Tryz.ntmps44
  go_wp2_with fail
  go_loopg [5] l.length (fun k iv wr => ∃ i : Nat, i + k = l.length ∧ iv = .int .i64 i ∧ Below w.heap.size w wr)
  case atStart => exact ⟨0, by omega, rfl, Below.refl _ _⟩
  case round =>
    obtain ⟨i, hi, rfl, hb⟩ := hrel
    have hl := H.out.2.2
    by_cases hlt : i < l.length
    · obtain ⟨v, hv⟩ : ∃ v, l[i]? = some v := ⟨l[i], List.getElem?_eq_getElem hlt⟩
      obtain ⟨b1, o1, rfl, _, p0⟩ := (H.out.1.below hb).at_ hv
      obtain ⟨b2, o2, rfl, _, q0⟩ := (H.out.2.1.below hb).at_ hv
      have k0 : (0 : Int) ≤ (i : Int) := by omega
      have k1 : (i : Int) < (l.length : Int) := by omega
      have HJ := hid (And.intro hi hb)
      clear hi hv hb
      go_wp2_with fail
      go_quiet (fail)
      go_wp2_with fail
      obtain ⟨hi, hb⟩ := HJ.out
      go_roundg (gk - 1)
      case measure => omega
      case rel => exact ⟨i + 1, by omega, by go_num, ⟨hb.os, hb.tape, hb.output, hb.size, hb.block⟩⟩
    · have hge : l.length ≤ i := by omega
      have hn : decide ((i : Int) < (l.length : Int)) = false := by simp; omega
      go_wp2_with fail
      go_ret
      exact ⟨rfl, hb⟩
end Go.Proofs.YtkkgpdejmcpcpaaGreatDoor

/- errors.As at a code: into a code: it is one; into a fault: it is none. After the worked example of errors.As in the kit. -/
namespace Go.Proofs.YtkkgpdejmcpcpaaGreatDoor
open Go.RowKit Go.Extern.Stop Go.Stop Go.Extern

theorem as_nil (t : Value) (w : World) :
    Calls Tryz.prog 73 #[.nilIface, t] w fun e w' => e = .returned (.bool false) ∧ w' = w := by
  go_enter Tryz.func73, Tryz.ntmps73
  go_wp2
  go_ret
  exact ⟨rfl, rfl⟩
namespace ErrAs
/-! ### Closed facts on the model's entries for internal/reflectlite, at this program's types. -/
theorem rlm (z : Sem Value) (f : TypeId → Addr → Nat → Nat → Sem Value) (v : Value) :
    ReflectliteValue.method z f #[v] = (do match ← ReflectliteValue.parts v with | none => z | some (t, a, fl) => f t a fl (fl % 32)) := rfl
theorem methodKind (h : Value) (w : World) : (Go.method 319 170 (.agg #[h]) "Kind").run Tryz.prog w = .ok (117, h) w := by kernel_rfl
theorem methodElem (h : Value) (w : World) : (Go.method 319 170 (.agg #[h]) "Elem").run Tryz.prog w = .ok (145, .agg #[h]) w := by kernel_rfl
theorem methodImplements (h : Value) (w : World) : (Go.method 319 170 (.agg #[h]) "Implements").run Tryz.prog w = .ok (146, .agg #[h]) w := by kernel_rfl
theorem methodAssignableTo (h : Value) (w : World) : (Go.method 319 170 (.agg #[h]) "AssignableTo").run Tryz.prog w = .ok (143, .agg #[h]) w := by kernel_rfl
theorem valueOfC (t : Addr) (w : World) : (ReflectliteValue.unpack (.iface 142 (.pointer (some t)))).run Tryz.prog w
    = .ok (.agg #[.pointer (some ⟨1, 142, none⟩), .pointer (some ⟨w.heap.size, 0, none⟩), .int .u64 150]) (w.alloc (.cells #[.pointer (some t)] 142)) := by kernel_rfl
theorem typeC (a : Addr) (w : World) : (ReflectliteValue.methodAny (ReflectliteValue.valueError "reflectlite.Value.Type" 0) (fun t _ _ _ => ReflectliteType.toType t) #[.agg #[.pointer (some ⟨1, 142, none⟩), .pointer (some a), .int .u64 150]]).run Tryz.prog w
    = .ok (.iface 170 (.agg #[.pointer (some ⟨1, 142, none⟩)])) w := by kernel_rfl
theorem kindC (w : World) : ((ReflectliteType.abiMethod fun t => (fun a : Nat => Value.int IntKind.u8 (a : Int)) <$> Rtype.kind t) #[.pointer (some ⟨1, 142, none⟩)]).run Tryz.prog w = .ok (.int .u8 22) w := by kernel_rfl
theorem kindEC (w : World) : ((ReflectliteType.abiMethod fun t => (fun a : Nat => Value.int IntKind.u8 (a : Int)) <$> Rtype.kind t) #[.pointer (some ⟨1, 43, none⟩)]).run Tryz.prog w = .ok (.int .u8 2) w := by kernel_rfl
theorem partsC (a : Addr) (w : World) : (ReflectliteValue.parts (.agg #[.pointer (some ⟨1, 142, none⟩), .pointer (some a), .int .u64 150])).run Tryz.prog w = .ok (some (142, a, 150)) w := by kernel_rfl
theorem isNilC (a p : Addr) (W : World) (ha : W.cell? a = some (.pointer (some p))) :
    (ReflectliteValue.method (ReflectliteValue.valueError "reflectlite.Value.IsNil" 0) ReflectliteValue.isNil #[.agg #[.pointer (some ⟨1, 142, none⟩), .pointer (some a), .int .u64 150]]).run Tryz.prog W = .ok (.bool false) W := by
  rw [rlm]
  simp only [Sem.run_bind, partsC, Result.andThen]
  simp [ReflectliteValue.isNil, loadVar, isAgg, underlying, Tryz.underlying142, ha, Result.andThen]
theorem elemC (w : World) : (ReflectliteType.method ReflectliteType.elem #[.agg #[.pointer (some ⟨1, 142, none⟩)]]).run Tryz.prog w = .ok (.iface 170 (.agg #[.pointer (some ⟨1, 43, none⟩)])) w := by kernel_rfl
theorem implementsC (w : World) : (ReflectliteType.relation "Implements" ReflectliteType.implements_ #[.agg #[.pointer (some ⟨1, 43, none⟩)], .iface 170 (.agg #[.pointer (some ⟨1, 39, none⟩)])]).run Tryz.prog w = .ok (.bool true) w := by kernel_rfl
theorem valueOfF (t : Addr) (w : World) : (ReflectliteValue.unpack (.iface 143 (.pointer (some t)))).run Tryz.prog w
    = .ok (.agg #[.pointer (some ⟨1, 143, none⟩), .pointer (some ⟨w.heap.size, 0, none⟩), .int .u64 150]) (w.alloc (.cells #[.pointer (some t)] 143)) := by kernel_rfl
theorem typeF (a : Addr) (w : World) : (ReflectliteValue.methodAny (ReflectliteValue.valueError "reflectlite.Value.Type" 0) (fun t _ _ _ => ReflectliteType.toType t) #[.agg #[.pointer (some ⟨1, 143, none⟩), .pointer (some a), .int .u64 150]]).run Tryz.prog w
    = .ok (.iface 170 (.agg #[.pointer (some ⟨1, 143, none⟩)])) w := by kernel_rfl
theorem kindF (w : World) : ((ReflectliteType.abiMethod fun t => (fun a : Nat => Value.int IntKind.u8 (a : Int)) <$> Rtype.kind t) #[.pointer (some ⟨1, 143, none⟩)]).run Tryz.prog w = .ok (.int .u8 22) w := by kernel_rfl
theorem kindEF (w : World) : ((ReflectliteType.abiMethod fun t => (fun a : Nat => Value.int IntKind.u8 (a : Int)) <$> Rtype.kind t) #[.pointer (some ⟨1, 130, none⟩)]).run Tryz.prog w = .ok (.int .u8 22) w := by kernel_rfl
theorem partsF (a : Addr) (w : World) : (ReflectliteValue.parts (.agg #[.pointer (some ⟨1, 143, none⟩), .pointer (some a), .int .u64 150])).run Tryz.prog w = .ok (some (143, a, 150)) w := by kernel_rfl
theorem isNilF (a p : Addr) (W : World) (ha : W.cell? a = some (.pointer (some p))) :
    (ReflectliteValue.method (ReflectliteValue.valueError "reflectlite.Value.IsNil" 0) ReflectliteValue.isNil #[.agg #[.pointer (some ⟨1, 143, none⟩), .pointer (some a), .int .u64 150]]).run Tryz.prog W = .ok (.bool false) W := by
  rw [rlm]
  simp only [Sem.run_bind, partsF, Result.andThen]
  simp [ReflectliteValue.isNil, loadVar, isAgg, underlying, Tryz.underlying143, ha, Result.andThen]
theorem elemF (w : World) : (ReflectliteType.method ReflectliteType.elem #[.agg #[.pointer (some ⟨1, 143, none⟩)]]).run Tryz.prog w = .ok (.iface 170 (.agg #[.pointer (some ⟨1, 130, none⟩)])) w := by kernel_rfl
theorem implementsF (w : World) : (ReflectliteType.relation "Implements" ReflectliteType.implements_ #[.agg #[.pointer (some ⟨1, 130, none⟩)], .iface 170 (.agg #[.pointer (some ⟨1, 39, none⟩)])]).run Tryz.prog w = .ok (.bool true) w := by kernel_rfl
theorem typeOfC (v : Value) (w : World) : (ReflectliteType.typeOf #[.iface 43 v]).run Tryz.prog w = .ok (.iface 170 (.agg #[.pointer (some ⟨1, 43, none⟩)])) w := by kernel_rfl
theorem assignableCC (w : World) : (ReflectliteType.relation "AssignableTo" ReflectliteType.assignableTo #[.agg #[.pointer (some ⟨1, 43, none⟩)], .iface 170 (.agg #[.pointer (some ⟨1, 43, none⟩)])]).run Tryz.prog w = .ok (.bool true) w := by kernel_rfl
theorem assignableCF (w : World) : (ReflectliteType.relation "AssignableTo" ReflectliteType.assignableTo #[.agg #[.pointer (some ⟨1, 43, none⟩)], .iface 170 (.agg #[.pointer (some ⟨1, 130, none⟩)])]).run Tryz.prog w = .ok (.bool false) w := by kernel_rfl
theorem valueOfCode (c : Int) (w : World) : (ReflectliteValue.unpack (.iface 43 (.int .i64 c))).run Tryz.prog w
    = .ok (.agg #[.pointer (some ⟨1, 43, none⟩), .pointer (some ⟨w.heap.size, 0, none⟩), .int .u64 130]) (w.alloc (.cells #[.int .i64 c] 43)) := by kernel_rfl
theorem elemOfC (w : World) : (Rtype.elem? 142).run Tryz.prog w = .ok (some 43) w := by kernel_rfl
theorem mkC (p : Addr) (w : World) : (ReflectliteValue.mk 43 p ReflectliteValue.flagAddr).run Tryz.prog w = .ok (.agg #[.pointer (some ⟨1, 43, none⟩), .pointer (some p), .int .u64 386]) w := by kernel_rfl
theorem elemVC (a p : Addr) (W : World) (ha : W.cell? a = some (.pointer (some p))) :
    (ReflectliteValue.method (ReflectliteValue.valueError "reflectlite.Value.Elem" 0) ReflectliteValue.elem #[.agg #[.pointer (some ⟨1, 142, none⟩), .pointer (some a), .int .u64 150]]).run Tryz.prog W
      = .ok (.agg #[.pointer (some ⟨1, 43, none⟩), .pointer (some p), .int .u64 386]) W := by
  rw [rlm]
  simp only [Sem.run_bind, partsC, Result.andThen]
  simp [ReflectliteValue.elem, loadVar, isAgg, underlying, Tryz.underlying142, ha, Result.andThen, elemOfC, mkC]
theorem rls (v x : Value) : ReflectliteValue.set #[v, x] = (do
    let (some (dst, a, fl), some (src, b, _)) := (← ReflectliteValue.parts v, ← ReflectliteValue.parts x)
      | unsupported (.noEntry "extern/(internal/reflectlite.Value).Set.zeroValue")
    if fl / ReflectliteValue.flagAddr % 2 == 0 then unsupported (.noEntry "extern/(internal/reflectlite.Value).Set.unaddressable")
    let val ← loadVar src b
    if ← Rtype.directlyAssignable dst src then storeVar dst a val
    else if ← Rtype.implements dst src then
      if (← Rtype.kind src) == 20 then
        match val with
        | .nilIface => unsupported (.noEntry "extern/reflectlite: a nil value of one interface type handed on as a value of another")
        | _ => storeVar dst a val
      else storeVar dst a (.iface src val)
    else panicString ("reflectlite.Set: value of type " ++ (← Rtype.spelt src) ++ " is not assignable to type " ++ (← Rtype.spelt dst))
    pure (.tuple #[])) := rfl
theorem partsCa (a : Addr) (w : World) : (ReflectliteValue.parts (.agg #[.pointer (some ⟨1, 43, none⟩), .pointer (some a), .int .u64 386])).run Tryz.prog w = .ok (some (43, a, 386)) w := by kernel_rfl
theorem partsCb (a : Addr) (w : World) : (ReflectliteValue.parts (.agg #[.pointer (some ⟨1, 43, none⟩), .pointer (some a), .int .u64 130])).run Tryz.prog w = .ok (some (43, a, 130)) w := by kernel_rfl
theorem directC (w : World) : (Rtype.directlyAssignable 43 43).run Tryz.prog w = .ok true w := by kernel_rfl
theorem setC (ta b : Addr) (c : Int) (old : Value) (W : World) (hb : W.cell? b = some (.int .i64 c)) (ht : W.cell? ta = some old) (hf : W.frozen? ta = false) :
    (ReflectliteValue.set #[.agg #[.pointer (some ⟨1, 43, none⟩), .pointer (some ta), .int .u64 386], .agg #[.pointer (some ⟨1, 43, none⟩), .pointer (some b), .int .u64 130]]).run Tryz.prog W
      = .ok (.tuple #[]) (W.setCell ta (.int .i64 c)) := by
  rw [rls]
  simp only [Sem.run_bind, partsCa, partsCb, Result.andThen]
  simp [ReflectliteValue.flagAddr, loadVar, isAgg, underlying, Tryz.underlying43, hb, Result.andThen, directC, storeVar, Value.cells, storeCells, Addr.add]
  rw [run_store Tryz.prog W ta _ _ (by rfl)]
  simp [ht, hf]
theorem noAs (v : Value) (xT : TypeId) (w : World) : (Instr.typeAssert (.iface 43 v) xT 175 true).run Tryz.prog w = .ok (.tuple #[.nilIface, .bool false]) w := run_typeAssert_lacksB Tryz.underlying175 (by kernel_rfl) (by kernel_rfl) v xT w
theorem noUnwrap (v : Value) (xT : TypeId) (w : World) : (Instr.typeAssert (.iface 43 v) xT 178 true).run Tryz.prog w = .ok (.tuple #[.nilIface, .bool false]) w := run_typeAssert_lacksB Tryz.underlying178 (by kernel_rfl) (by kernel_rfl) v xT w
theorem noUnwraps (v : Value) (xT : TypeId) (w : World) : (Instr.typeAssert (.iface 43 v) xT 180 true).run Tryz.prog w = .ok (.tuple #[.nilIface, .bool false]) w := run_typeAssert_lacksB Tryz.underlying180 (by kernel_rfl) (by kernel_rfl) v xT w
end ErrAs
open ErrAs
/-- The type 'error' of package errors, as it is laid. -/
def ErrT (w : World) : Prop := w.cell? ⟨0, 0, none⟩ = some (.iface 170 (.agg #[.pointer (some ⟨1, 39, none⟩)]))
theorem ErrT.lt {w : World} (hg : ErrT w) : 0 < w.heap.size := by
  rcases Nat.eq_zero_or_pos w.heap.size with h0 | h
  · simp [ErrT, World.cell?, h0] at hg
  · exact h
theorem ErrT.below {w w' : World} {B : Nat} (hg : ErrT w) (hb : Below B w w') (hB : 0 < B) : ErrT w' := (hb.cell (p := ⟨0, 0, none⟩) hB).trans hg

set_option maxHeartbeats 4000000 in
theorem as_code (c : Int) (t : Addr) (old : Value) (w : World) (hg : ErrT w) (ht0 : w.cell? t = some old) (hf0 : w.frozen? t = false) :
    Calls Tryz.prog 73 #[.iface 43 (.int .i64 c), .iface 142 (.pointer (some t))] w fun ev w' => ev = .returned (.bool true) ∧ w' = ((((w.alloc (.cells #[.pointer (some t)] 142)).alloc (.cells #[.pointer (some ⟨1, 142, none⟩), .pointer (some ⟨w.heap.size, 0, none⟩), .int .u64 150] 158)).alloc (.cells #[.pointer (some ⟨1, 142, none⟩), .pointer (some ⟨w.heap.size, 0, none⟩), .int .u64 150] 158)).alloc (.cells #[.int .i64 c] 43)).setCell t (.int .i64 c) := by
  have h6 := @run_callFunc_extern Tryz.prog 89 _ (fun args => ReflectliteValue.unpack (args.getD 0 (.tuple #[]))) Tryz.func89 (by kernel_rfl) (by kernel_rfl) (by kernel_rfl) (by kernel_rfl)
  have h7 := @run_callFunc_extern Tryz.prog 90 _ (ReflectliteValue.methodAny (ReflectliteValue.valueError "reflectlite.Value.Type" 0) (fun t _ _ _ => ReflectliteType.toType t)) Tryz.func90 (by kernel_rfl) (by kernel_rfl) (by kernel_rfl) (by kernel_rfl)
  have h8 := @run_callFunc_extern Tryz.prog 91 _ (ReflectliteValue.method (ReflectliteValue.valueError "reflectlite.Value.IsNil" 0) ReflectliteValue.isNil) Tryz.func91 (by kernel_rfl) (by kernel_rfl) (by kernel_rfl) (by kernel_rfl)
  have h27 := @run_callFunc_extern Tryz.prog 117 _ (ReflectliteType.abiMethod fun t => do pure (.int .u8 (← Rtype.kind t))) Tryz.func117 (by kernel_rfl) (by kernel_rfl) (by kernel_rfl) (by kernel_rfl)
  have h37 := @run_callFunc_extern Tryz.prog 145 _ (ReflectliteType.method ReflectliteType.elem) Tryz.func145 (by kernel_rfl) (by kernel_rfl) (by kernel_rfl) (by kernel_rfl)
  have h38 := @run_callFunc_extern Tryz.prog 146 _ (ReflectliteType.relation "Implements" ReflectliteType.implements_) Tryz.func146 (by kernel_rfl) (by kernel_rfl) (by kernel_rfl) (by kernel_rfl)
  have h10 := @run_callFunc_extern Tryz.prog 99 _ ReflectliteType.typeOf Tryz.func99 (by kernel_rfl) (by kernel_rfl) (by kernel_rfl) (by kernel_rfl)
  have h35 := @run_callFunc_extern Tryz.prog 143 _ (ReflectliteType.relation "AssignableTo" ReflectliteType.assignableTo) Tryz.func143 (by kernel_rfl) (by kernel_rfl) (by kernel_rfl) (by kernel_rfl)
  have h11 := @run_callFunc_extern Tryz.prog 100 _ (ReflectliteValue.method (ReflectliteValue.valueError "reflectlite.Value.Elem" 0) ReflectliteValue.elem) Tryz.func100 (by kernel_rfl) (by kernel_rfl) (by kernel_rfl) (by kernel_rfl)
  have h12 := @run_callFunc_extern Tryz.prog 101 _ ReflectliteValue.set Tryz.func101 (by kernel_rfl) (by kernel_rfl) (by kernel_rfl) (by kernel_rfl)
  have tO := typeOfC
  have mA := methodAssignableTo
  have f6 := valueOfC
  have f7 := typeC
  have mK := methodKind
  have mE := methodElem
  have mI := methodImplements
  have k27 := kindC
  have k25 := kindEC
  have e27 := elemC
  have i25 := implementsC
  have n8 := isNilC ⟨w.heap.size, 0, none⟩ t ((w.alloc (.cells #[.pointer (some t)] 142)).alloc (.cells #[.pointer (some ⟨1, 142, none⟩), .pointer (some ⟨w.heap.size, 0, none⟩), .int .u64 150] 158)) (by simp)
  have hlt : 0 < w.heap.size := hg.lt
  have hg2 : ((w.alloc (.cells #[.pointer (some t)] 142)).alloc (.cells #[.pointer (some ⟨1, 142, none⟩), .pointer (some ⟨w.heap.size, 0, none⟩), .int .u64 150] 158)).cell? ⟨0, 0, none⟩ = some (.iface 170 (.agg #[.pointer (some ⟨1, 39, none⟩)])) := by
    rw [World.cell?_alloc_lt _ _ ⟨0, 0, none⟩ (by simp), World.cell?_alloc_lt _ _ ⟨0, 0, none⟩ hlt]; exact hg
  have a25 := assignableCC
  have v25 := valueOfCode
  have htl : t.block < w.heap.size := by
    rcases Nat.lt_or_ge t.block w.heap.size with h | h
    · exact h
    · simp [World.cell?, Array.getElem?_eq_none h] at ht0
  have el := elemVC ⟨w.heap.size, 0, none⟩ t (((w.alloc (.cells #[.pointer (some t)] 142)).alloc (.cells #[.pointer (some ⟨1, 142, none⟩), .pointer (some ⟨w.heap.size, 0, none⟩), .int .u64 150] 158)).alloc (.cells #[.pointer (some ⟨1, 142, none⟩), .pointer (some ⟨w.heap.size, 0, none⟩), .int .u64 150] 158)) (by rw [World.cell?_alloc_lt _ _ ⟨w.heap.size, 0, none⟩ (by simp; omega)]; simp)
  have st := setC t ⟨w.heap.size + 1 + 1 + 1, 0, none⟩ c old ((((w.alloc (.cells #[.pointer (some t)] 142)).alloc (.cells #[.pointer (some ⟨1, 142, none⟩), .pointer (some ⟨w.heap.size, 0, none⟩), .int .u64 150] 158)).alloc (.cells #[.pointer (some ⟨1, 142, none⟩), .pointer (some ⟨w.heap.size, 0, none⟩), .int .u64 150] 158)).alloc (.cells #[.int .i64 c] 43))
    (by rw [World.cell?_alloc_at _ _ _ _ (by simp)]; rfl)
    (by rw [World.cell?_alloc_lt _ _ t (by simp; omega), World.cell?_alloc_lt _ _ t (by simp; omega), World.cell?_alloc_lt _ _ t (by simp; omega), World.cell?_alloc_lt _ _ t htl]; exact ht0)
    (by rw [World.frozen?_alloc_old _ _ t (by simp; omega), World.frozen?_alloc_old _ _ t (by simp; omega), World.frozen?_alloc_old _ _ t (by simp; omega), World.frozen?_alloc_old _ _ t (Nat.ne_of_lt htl)]; exact hf0)
  go_enter Tryz.func73, Tryz.ntmps73
  go_wp2
  refine wp_loop_rounds 1 ?_
  rw [rounds_succ]
  go_wp2
  go_ret
  exact ⟨rfl, rfl⟩
set_option maxHeartbeats 4000000 in
theorem as_fault (c : Int) (t : Addr) (w : World) (hg : ErrT w) :
    Calls Tryz.prog 73 #[.iface 43 (.int .i64 c), .iface 143 (.pointer (some t))] w fun ev w' => ev = .returned (.bool false) ∧ Below w.heap.size w w' := by
  have h6 := @run_callFunc_extern Tryz.prog 89 _ (fun args => ReflectliteValue.unpack (args.getD 0 (.tuple #[]))) Tryz.func89 (by kernel_rfl) (by kernel_rfl) (by kernel_rfl) (by kernel_rfl)
  have h7 := @run_callFunc_extern Tryz.prog 90 _ (ReflectliteValue.methodAny (ReflectliteValue.valueError "reflectlite.Value.Type" 0) (fun t _ _ _ => ReflectliteType.toType t)) Tryz.func90 (by kernel_rfl) (by kernel_rfl) (by kernel_rfl) (by kernel_rfl)
  have h8 := @run_callFunc_extern Tryz.prog 91 _ (ReflectliteValue.method (ReflectliteValue.valueError "reflectlite.Value.IsNil" 0) ReflectliteValue.isNil) Tryz.func91 (by kernel_rfl) (by kernel_rfl) (by kernel_rfl) (by kernel_rfl)
  have h27 := @run_callFunc_extern Tryz.prog 117 _ (ReflectliteType.abiMethod fun t => do pure (.int .u8 (← Rtype.kind t))) Tryz.func117 (by kernel_rfl) (by kernel_rfl) (by kernel_rfl) (by kernel_rfl)
  have h37 := @run_callFunc_extern Tryz.prog 145 _ (ReflectliteType.method ReflectliteType.elem) Tryz.func145 (by kernel_rfl) (by kernel_rfl) (by kernel_rfl) (by kernel_rfl)
  have h38 := @run_callFunc_extern Tryz.prog 146 _ (ReflectliteType.relation "Implements" ReflectliteType.implements_) Tryz.func146 (by kernel_rfl) (by kernel_rfl) (by kernel_rfl) (by kernel_rfl)
  have h10 := @run_callFunc_extern Tryz.prog 99 _ ReflectliteType.typeOf Tryz.func99 (by kernel_rfl) (by kernel_rfl) (by kernel_rfl) (by kernel_rfl)
  have h35 := @run_callFunc_extern Tryz.prog 143 _ (ReflectliteType.relation "AssignableTo" ReflectliteType.assignableTo) Tryz.func143 (by kernel_rfl) (by kernel_rfl) (by kernel_rfl) (by kernel_rfl)
  have tO := typeOfC
  have mA := methodAssignableTo
  have f6 := valueOfF
  have f7 := typeF
  have mK := methodKind
  have mE := methodElem
  have mI := methodImplements
  have k27 := kindF
  have k25 := kindEF
  have e27 := elemF
  have i25 := implementsF
  have n8 := isNilF ⟨w.heap.size, 0, none⟩ t ((w.alloc (.cells #[.pointer (some t)] 143)).alloc (.cells #[.pointer (some ⟨1, 143, none⟩), .pointer (some ⟨w.heap.size, 0, none⟩), .int .u64 150] 158)) (by simp)
  have hlt : 0 < w.heap.size := hg.lt
  have hg2 : ((w.alloc (.cells #[.pointer (some t)] 143)).alloc (.cells #[.pointer (some ⟨1, 143, none⟩), .pointer (some ⟨w.heap.size, 0, none⟩), .int .u64 150] 158)).cell? ⟨0, 0, none⟩ = some (.iface 170 (.agg #[.pointer (some ⟨1, 39, none⟩)])) := by
    rw [World.cell?_alloc_lt _ _ ⟨0, 0, none⟩ (by simp), World.cell?_alloc_lt _ _ ⟨0, 0, none⟩ hlt]; exact hg
  have a25 := assignableCF
  have u1 := noAs
  have u2 := noUnwrap
  have u3 := noUnwraps
  go_enter Tryz.func73, Tryz.ntmps73
  go_wp2
  refine wp_loop_rounds 1 ?_
  rw [rounds_succ]
  go_wp2
  go_ret
  exact ⟨rfl, (((Below.refl _ _).alloc (Nat.le_refl _) _).alloc (by simp) _).alloc (by simp; omega) _⟩
end Go.Proofs.YtkkgpdejmcpcpaaGreatDoor

/- fault.Of, fault.Path, kinsame.Err: at no error, and at a code. -/
namespace Go.Proofs.YtkkgpdejmcpcpaaGreatDoor
open Go.RowKit

theorem as_code' (c : Int) (tb : Nat) (old : Value) (w : World) (B : Nat) (hg : ErrT w) (ht0 : w.cell? ⟨tb, 0, none⟩ = some old) (hf0 : w.frozen? ⟨tb, 0, none⟩ = false) (hB : B ≤ tb) (hBs : B ≤ w.heap.size) :
    Calls Tryz.prog 73 #[.iface 43 (.int .i64 c), .iface 142 (.pointer (some ⟨tb, 0, none⟩))] w fun ev w' => ev = .returned (.bool true) ∧ Below B w w' ∧ w'.cell? ⟨tb, 0, none⟩ = some (.int .i64 c) := by
  refine (as_code c _ old w hg ht0 hf0).mono ?_
  rintro e w' ⟨rfl, rfl⟩
  have htl : tb < w.heap.size := World.block_lt_of_cell? _ _ ht0
  refine ⟨rfl, ?_, ?_⟩
  · exact (((((Below.refl B w).alloc hBs _).alloc (by simp; omega) _).alloc (by simp; omega) _).alloc (by simp; omega) _).setCell hB _
  · have hold : (((((w.alloc (.cells #[.pointer (some ⟨tb, 0, none⟩)] 142)).alloc (.cells #[.pointer (some ⟨1, 142, none⟩), .pointer (some ⟨w.heap.size, 0, none⟩), .int .u64 150] 158)).alloc (.cells #[.pointer (some ⟨1, 142, none⟩), .pointer (some ⟨w.heap.size, 0, none⟩), .int .u64 150] 158)).alloc (.cells #[.int .i64 c] 43))).cell? ⟨tb, 0, none⟩ = some old := by
      rw [World.cell?_alloc_lt _ _ ⟨tb, 0, none⟩ (by simp; omega), World.cell?_alloc_lt _ _ ⟨tb, 0, none⟩ (by simp; omega), World.cell?_alloc_lt _ _ ⟨tb, 0, none⟩ (by simp; omega), World.cell?_alloc_lt _ _ ⟨tb, 0, none⟩ htl]
      exact ht0
    exact World.cell?_setCell_same _ _ _ hold
theorem of_nil (w : World) : Calls Tryz.prog 45 #[.nilIface] w fun e w' => e = .returned (.int .i64 0) ∧ w = w' := by
  go_enter Tryz.func45, Tryz.ntmps45
  go_wp2
  go_ret
  exact ⟨rfl, rfl⟩
theorem of_code (c : Int) (w : World) (hg : ErrT w) : Calls Tryz.prog 45 #[.iface 43 (.int .i64 c)] w fun e w' => e = .returned (.int .i64 c) ∧ Below w.heap.size w w' := by
  have hlt := hg.lt
  have hg2 : ErrT (w.alloc (.cells #[.int .i64 0] 43)) := hg.below ((Below.refl w.heap.size w).alloc (Nat.le_refl _) _) hlt
  have HG := hid (And.intro hg hg2)
  clear hg hg2
  go_enter Tryz.func45, Tryz.ntmps45
  go_wp2_with fail
  refine (as_code' c w.heap.size (.int .i64 0) _ w.heap.size HG.out.2 (by simp) (by simp) (Nat.le_refl _) (by simp)).mono ?_
  rintro e w' ⟨rfl, hb, hc⟩
  have B := hid hb
  clear hb
  go_wp2_with fail
  go_ret
  exact ⟨rfl, ((Below.refl w.heap.size w).alloc (Nat.le_refl _) _).trans B.out⟩
theorem path_nil (w : World) : Calls Tryz.prog 46 #[.nilIface] w fun e w' => e = .returned (.slice none 0 0) ∧ Below w.heap.size w w' := by
  go_enter Tryz.func46, Tryz.ntmps46
  go_wp2_with fail
  refine wp_loop_rounds 1 ?_
  rw [rounds_succ]
  go_wp2_with fail
  refine (as_nil _ _).mono ?_
  rintro e w' ⟨rfl, rfl⟩
  go_wp2_with fail
  go_ret
  exact ⟨rfl, (Below.refl _ _).alloc (Nat.le_refl _) _⟩
theorem path_code (c : Int) (w : World) (hg : ErrT w) : Calls Tryz.prog 46 #[.iface 43 (.int .i64 c)] w fun e w' => e = .returned (.slice none 0 0) ∧ Below w.heap.size w w' := by
  have hlt := hg.lt
  have hg2 : ErrT (w.alloc (.cells #[.pointer none] 130)) := hg.below ((Below.refl w.heap.size w).alloc (Nat.le_refl _) _) hlt
  have HG := hid (And.intro hg hg2)
  clear hg hg2
  go_enter Tryz.func46, Tryz.ntmps46
  go_wp2_with fail
  refine wp_loop_rounds 1 ?_
  rw [rounds_succ]
  go_wp2_with fail
  refine (as_fault c ⟨w.heap.size, 0, none⟩ _ HG.out.2).mono ?_
  rintro e w' ⟨rfl, hb⟩
  have B := hid hb
  clear hb
  go_wp2_with fail
  go_ret
  exact ⟨rfl, ((Below.refl w.heap.size w).alloc (Nat.le_refl _) _).trans (B.out.mono (by simp))⟩
theorem err_ok (c : Int) (s : Value) (w : World) : Calls Tryz.prog 38 #[.agg #[.int .i64 c, s]] w fun e w' => e = .returned (.bool (c == 0)) ∧ Below w.heap.size w w' := by
  go_enter Tryz.func38, Tryz.ntmps38
  go_wp2_with fail
  go_ret
  exact ⟨rfl, by first | exact Below.refl _ _ | exact (Below.refl _ _).alloc (Nat.le_refl _) _⟩

/-- No error, or one of a code. -/
def codeV (c : Int) : Value := if c = 0 then .nilIface else .iface 43 (.int .i64 c)
theorem of_any (c : Int) (w : World) (hg : ErrT w) : Calls Tryz.prog 45 #[codeV c] w fun e w' => e = .returned (.int .i64 c) ∧ Below w.heap.size w w' := by
  unfold codeV
  split
  · rename_i h
    subst h
    refine (of_nil w).mono ?_
    rintro e w' ⟨rfl, rfl⟩
    exact ⟨rfl, Below.refl _ _⟩
  · exact of_code c w hg
theorem path_any (c : Int) (w : World) (hg : ErrT w) : Calls Tryz.prog 46 #[codeV c] w fun e w' => e = .returned (.slice none 0 0) ∧ Below w.heap.size w w' := by
  unfold codeV
  split
  · exact path_nil w
  · exact path_code c w hg
/-- What holds while two errors are looked at. -/
structure Ev (w : World) (ob : Nat) (c : Int) (W : World) : Prop where
  et : ErrT W
  bel : Below w.heap.size w W
  blk : Blk W ob 46 #[.int .i64 c, .slice none 0 0]
theorem Ev.step {w W W' : World} {ob : Nat} {c : Int} (h : Ev w ob c W) (hb : Below W.heap.size W W') : Ev w ob c W' :=
  ⟨h.et.below hb h.et.lt, h.bel.trans (hb.mono h.bel.size), h.blk.below hb h.blk.lt⟩
theorem Ev.drew {w W : World} {ob : Nat} {c : Int} (h : Ev w ob c W) : Ev w ob c W.drew := h.step (Below.refl _ W).drew
theorem Ev.cells {w W : World} {ob : Nat} {c : Int} (h : Ev w ob c W) : W.cell? ⟨ob, 0, none⟩ = some (.int .i64 c) ∧ W.cell? ⟨ob, 1, none⟩ = some (.slice none 0 0) :=
  ⟨by simpa using h.blk.cell 0, by simpa using h.blk.cell 1⟩
set_option maxRecDepth 100000 in
set_option maxHeartbeats 1600000 in
theorem err_same (c : Int) (w : World) (hg : ErrT w) : Calls Tryz.prog 14 #[codeV c, .agg #[.int .i64 c, .slice none 0 0]] w fun e w' => e = .returned (.bool true) ∧ Below w.heap.size w w' := by
  have hb0 : Below w.heap.size w (w.alloc (.cells #[.int .i64 c, .slice none 0 0] 46)) := (Below.refl w.heap.size w).alloc (Nat.le_refl _) _
  have EV : Hid (Ev w w.heap.size c (w.alloc (.cells #[.int .i64 c, .slice none 0 0] 46))) := ⟨hg.below hb0 hg.lt, hb0, Blk.new _ _ _⟩
  clear hg hb0
  have hof := hid (of_any c)
  have hpa := hid (path_any c)
  by_cases h0 : c = 0
  all_goals
    first
      | (simp only [codeV, if_pos h0] at hof hpa ⊢
         have h1 : (c == 0) = true := by simpa using h0)
      | (simp only [codeV, if_neg h0] at hof hpa ⊢
         have h1 : (c == 0) = false := by simpa using h0)
    clear h0
    go_enter Tryz.func14, Tryz.ntmps14
    go_wp2_with fail
    obtain ⟨b0, b1⟩ := EV.out.cells
    generalize w.alloc (.cells #[.int .i64 c, .slice none 0 0] 46) = wq at *
    go_region_held3 (fun W => W.cell? ⟨w.heap.size, 0, none⟩ = some (.int .i64 c) ∧ W.cell? ⟨w.heap.size, 1, none⟩ = some (.slice none 0 0))
      (first
        | exact ⟨b0, b1⟩
        | exact ⟨d0, d1⟩
        | exact ⟨f0, f1⟩)
      (first
        | (go_at_call 38
           refine (err_ok _ _ _).mono ?_
           rintro e w2 ⟨rfl, hb2⟩
           have E2 := hid (Ev.step (by first | exact EV.out | exact EV.out.drew) hb2)
           obtain ⟨d0, d1⟩ := E2.out.cells
           clear hb2)
        | (go_at_call 45
           refine (hof.out _ (by exact E2.out.et)).mono ?_
           rintro e w3 ⟨rfl, hb3⟩
           have E3 := hid (E2.out.step hb3)
           obtain ⟨f0, f1⟩ := E3.out.cells
           clear hb3))
    all_goals
      go_wp2_with fail
      refine (hpa.out _ (by first | exact E3.out.et | exact E3.out.drew.et)).mono ?_
      rintro e w4 ⟨rfl, hb4⟩
      have E4 := hid (Ev.step (by first | exact E3.out | exact E3.out.drew) hb4)
      obtain ⟨g0, g1⟩ := E4.out.cells
      clear hb4
      go_wp2_with fail
      refine wp_loop_rounds 1 ?_
      rw [rounds_succ]
      go_wp2_with fail
      go_ret
      exact ⟨rfl, E4.out.bel⟩
end Go.Proofs.YtkkgpdejmcpcpaaGreatDoor

