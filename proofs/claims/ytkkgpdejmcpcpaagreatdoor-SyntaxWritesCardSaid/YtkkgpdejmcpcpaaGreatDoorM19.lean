/- Parts: XErrPath5. -/
import Derived.Test.YtkkgpdejmcpcpaaGreatDoorM02
import Derived.Test.YtkkgpdejmcpcpaaGreatDoorM01
import Derived.Deep.LoopGhost
import Derived.Outline
import Derived.Deep.RegionHeld3
import Derived.Deep.DeepCutAuto
import Derived.Deep.QuietTactic
import Derived.BigQuiet
/- errors.As, fault.Of, fault.Path, kinsame.Err at an error with a path. -/
/- errors.As, fault.Of, fault.Path at an error with a path. -/
namespace Go.Proofs.YtkkgpdejmcpcpaaGreatDoor
open Go.RowKit Go.Extern.Stop Go.Stop Go.Extern ErrAs

/-- A path: where, at which place; the outermost first. -/
abbrev PathS := List (ByteArray × Int)
/-- The value v is an error of code c that came through these places. -/
def ErrV (w : World) (c : Int) : PathS → Value → Prop
  | [], v => v = .iface 43 (.int .i64 c)
  | (s, p) :: r, v => ∃ fb inner, v = .iface 130 (.pointer (some ⟨fb, 0, none⟩)) ∧ Blk w fb 132 #[.string s, .int .i64 p, inner] ∧ ErrV w c r inner
theorem ErrV.keep {w w' : World} {c : Int} (hk : ∀ k, k < w.heap.size → w'.heap[k]? = w.heap[k]?) : ∀ {q : PathS} {v : Value}, ErrV w c q v → ErrV w' c q v := by
  intro q
  induction q with
  | nil => intro v h; exact h
  | cons a r ih =>
    obtain ⟨s, p⟩ := a
    rintro v ⟨fb, inner, h1, h2, h3⟩
    exact ⟨fb, inner, h1, (hk fb h2.lt).trans h2, ih h3⟩
theorem ErrV.below {w w' : World} {c : Int} {q : PathS} {v : Value} (h : ErrV w c q v) (hb : Below w.heap.size w w') : ErrV w' c q v := h.keep hb.block
theorem ErrV.form {w : World} {c : Int} {q : PathS} {v : Value} (h : ErrV w c q v) : ∃ t x, v = .iface t x := by
  cases q with
  | nil => exact ⟨_, _, h⟩
  | cons a r =>
    obtain ⟨fb, inner, h1, _⟩ := h
    exact ⟨_, _, h1⟩

namespace ErrPath
/-! ### Closed facts at a fault. -/
theorem typeOfFv (v : Value) (w : World) : (ReflectliteType.typeOf #[.iface 130 v]).run Tryz.prog w = .ok (.iface 170 (.agg #[.pointer (some ⟨1, 130, none⟩)])) w := by kernel_rfl
theorem assignableFC (w : World) : (ReflectliteType.relation "AssignableTo" ReflectliteType.assignableTo #[.agg #[.pointer (some ⟨1, 130, none⟩)], .iface 170 (.agg #[.pointer (some ⟨1, 43, none⟩)])]).run Tryz.prog w = .ok (.bool false) w := by kernel_rfl
theorem assignableFF (w : World) : (ReflectliteType.relation "AssignableTo" ReflectliteType.assignableTo #[.agg #[.pointer (some ⟨1, 130, none⟩)], .iface 170 (.agg #[.pointer (some ⟨1, 130, none⟩)])]).run Tryz.prog w = .ok (.bool true) w := by kernel_rfl
theorem valueOfFv (p : Addr) (w : World) : (ReflectliteValue.unpack (.iface 130 (.pointer (some p)))).run Tryz.prog w
    = .ok (.agg #[.pointer (some ⟨1, 130, none⟩), .pointer (some ⟨w.heap.size, 0, none⟩), .int .u64 150]) (w.alloc (.cells #[.pointer (some p)] 130)) := by kernel_rfl
theorem elemOfF (w : World) : (Rtype.elem? 143).run Tryz.prog w = .ok (some 130) w := by kernel_rfl
theorem mkF (p : Addr) (w : World) : (ReflectliteValue.mk 130 p ReflectliteValue.flagAddr).run Tryz.prog w = .ok (.agg #[.pointer (some ⟨1, 130, none⟩), .pointer (some p), .int .u64 406]) w := by kernel_rfl
theorem elemVF (a p : Addr) (W : World) (ha : W.cell? a = some (.pointer (some p))) :
    (ReflectliteValue.method (ReflectliteValue.valueError "reflectlite.Value.Elem" 0) ReflectliteValue.elem #[.agg #[.pointer (some ⟨1, 143, none⟩), .pointer (some a), .int .u64 150]]).run Tryz.prog W
      = .ok (.agg #[.pointer (some ⟨1, 130, none⟩), .pointer (some p), .int .u64 406]) W := by
  rw [rlm]
  simp only [Sem.run_bind, partsF, Result.andThen]
  simp [ReflectliteValue.elem, loadVar, isAgg, underlying, Tryz.underlying143, ha, Result.andThen, elemOfF, mkF]
theorem partsFa (a : Addr) (w : World) : (ReflectliteValue.parts (.agg #[.pointer (some ⟨1, 130, none⟩), .pointer (some a), .int .u64 406])).run Tryz.prog w = .ok (some (130, a, 406)) w := by kernel_rfl
theorem partsFb (a : Addr) (w : World) : (ReflectliteValue.parts (.agg #[.pointer (some ⟨1, 130, none⟩), .pointer (some a), .int .u64 150])).run Tryz.prog w = .ok (some (130, a, 150)) w := by kernel_rfl
theorem directF (w : World) : (Rtype.directlyAssignable 130 130).run Tryz.prog w = .ok true w := by kernel_rfl
theorem setF (ta b p : Addr) (old : Value) (W : World) (hb : W.cell? b = some (.pointer (some p))) (ht : W.cell? ta = some old) (hf : W.frozen? ta = false) :
    (ReflectliteValue.set #[.agg #[.pointer (some ⟨1, 130, none⟩), .pointer (some ta), .int .u64 406], .agg #[.pointer (some ⟨1, 130, none⟩), .pointer (some b), .int .u64 150]]).run Tryz.prog W
      = .ok (.tuple #[]) (W.setCell ta (.pointer (some p))) := by
  rw [rls]
  simp only [Sem.run_bind, partsFa, partsFb, Result.andThen]
  simp [ReflectliteValue.flagAddr, loadVar, isAgg, underlying, Tryz.underlying130, hb, Result.andThen, directF, storeVar, Value.cells, storeCells, Addr.add]
  rw [run_store Tryz.prog W ta _ _ (by rfl)]
  simp [ht, hf]
theorem noAsF (v : Value) (xT : TypeId) (w : World) : (Instr.typeAssert (.iface 130 v) xT 175 true).run Tryz.prog w = .ok (.tuple #[.nilIface, .bool false]) w := run_typeAssert_lacksB Tryz.underlying175 (by kernel_rfl) (by kernel_rfl) v xT w
theorem unwrapF (v : Value) (xT : TypeId) (w : World) : (Instr.typeAssert (.iface 130 v) xT 178 true).run Tryz.prog w = .ok (.tuple #[.iface 130 v, .bool true]) w := run_typeAssert_hasB Tryz.underlying178 (by kernel_rfl) v xT w
theorem methodUnwrap (h : Value) (w : World) : (Go.method 319 130 h "Unwrap").run Tryz.prog w = .ok (138, h) w := by kernel_rfl
end ErrPath
open ErrPath
theorem unwrap_any (fb : Nat) (s : ByteArray) (p : Int) (inner : Value) (w : World) (h : Blk w fb 132 #[.string s, .int .i64 p, inner]) :
    Calls Tryz.prog 138 #[.pointer (some ⟨fb, 0, none⟩)] w fun e w' => e = .returned inner ∧ w = w' := by
  have h0 := h.cell 2
  simp at h0
  clear h
  go_enter Tryz.func138, Tryz.ntmps138
  go_wp2
  go_ret
  exact ⟨rfl, rfl⟩
set_option maxHeartbeats 4000000 in
/-- Into a code: it is told, however deep. -/
theorem as_in (c : Int) (q : PathS) (v : Value) (tb vb : Nat) (old : Value) (w : World) (B : Nat) (hv : ErrV w c q v) (ht : w.cell? ⟨tb, 0, none⟩ = some old) (hf : w.frozen? ⟨tb, 0, none⟩ = false) (hvb : w.cell? ⟨vb, 0, none⟩ = some (.pointer (some ⟨tb, 0, none⟩))) (hB : B ≤ tb) (hBs : B ≤ w.heap.size) :
    Calls Tryz.prog 92 #[v, .iface 142 (.pointer (some ⟨tb, 0, none⟩)), .agg #[.pointer (some ⟨1, 142, none⟩), .pointer (some ⟨vb, 0, none⟩), .int .u64 150], .iface 170 (.agg #[.pointer (some ⟨1, 43, none⟩)])] w fun e w' => e = .returned (.bool true) ∧ Below B w w' ∧ w'.cell? ⟨tb, 0, none⟩ = some (.int .i64 c) := by
  have h10 := @run_callFunc_extern Tryz.prog 99 _ ReflectliteType.typeOf Tryz.func99 (by kernel_rfl) (by kernel_rfl) (by kernel_rfl) (by kernel_rfl)
  have h35 := @run_callFunc_extern Tryz.prog 143 _ (ReflectliteType.relation "AssignableTo" ReflectliteType.assignableTo) Tryz.func143 (by kernel_rfl) (by kernel_rfl) (by kernel_rfl) (by kernel_rfl)
  have h11 := @run_callFunc_extern Tryz.prog 100 _ (ReflectliteValue.method (ReflectliteValue.valueError "reflectlite.Value.Elem" 0) ReflectliteValue.elem) Tryz.func100 (by kernel_rfl) (by kernel_rfl) (by kernel_rfl) (by kernel_rfl)
  have h12 := @run_callFunc_extern Tryz.prog 101 _ ReflectliteValue.set Tryz.func101 (by kernel_rfl) (by kernel_rfl) (by kernel_rfl) (by kernel_rfl)
  have h6 := @run_callFunc_extern Tryz.prog 89 _ (fun args => ReflectliteValue.unpack (args.getD 0 (.tuple #[]))) Tryz.func89 (by kernel_rfl) (by kernel_rfl) (by kernel_rfl) (by kernel_rfl)
  have mA := methodAssignableTo
  have mU := methodUnwrap
  have hvl : vb < w.heap.size := World.block_lt_of_cell? _ _ hvb
  have htl : tb < w.heap.size := World.block_lt_of_cell? _ _ ht
  obtain ⟨w1, hw1⟩ : ∃ w1, w1 = w.alloc (.cells #[.pointer (some ⟨1, 142, none⟩), .pointer (some ⟨vb, 0, none⟩), .int .u64 150] 158) := ⟨_, rfl⟩
  have hb1 : Below w.heap.size w w1 := by rw [hw1]; exact (Below.refl _ _).alloc (Nat.le_refl _) _
  have hv1 : ErrV w1 c q v := hv.below hb1
  have ht1 : w1.cell? ⟨tb, 0, none⟩ = some old := (hb1.cell (p := ⟨tb, 0, none⟩) htl).trans ht
  have hf1 : w1.frozen? ⟨tb, 0, none⟩ = false := (hb1.frozen (p := ⟨tb, 0, none⟩) htl).trans hf
  have hvb1 : w1.cell? ⟨vb, 0, none⟩ = some (.pointer (some ⟨tb, 0, none⟩)) := (hb1.cell (p := ⟨vb, 0, none⟩) hvl).trans hvb
  have hbox : Blk w1 w.heap.size 158 #[.pointer (some ⟨1, 142, none⟩), .pointer (some ⟨vb, 0, none⟩), .int .u64 150] := by rw [hw1]; exact Blk.new _ _ _
  have hz1 : w.heap.size < w1.heap.size := hbox.lt
  have el := elemVC ⟨vb, 0, none⟩ ⟨tb, 0, none⟩ w1 hvb1
  have st := setC ⟨tb, 0, none⟩ ⟨w1.heap.size, 0, none⟩ c old (w1.alloc (.cells #[.int .i64 c] 43)) (by simp) (by rw [World.cell?_alloc_lt _ _ ⟨tb, 0, none⟩ (by simp; omega)]; exact ht1) (by rw [World.frozen?_alloc_old _ _ ⟨tb, 0, none⟩ (by simp; omega)]; exact hf1)
  have b0 := hbox.cell 0
  have b1 := hbox.cell 1
  have b2 := hbox.cell 2
  simp at b0 b1 b2
  have KP := hid (And.intro hb1 (And.intro ht1 (And.intro hf1 (And.intro hbox hv1))))
  clear hv ht hf hvb hb1 hv1 ht1 hf1 hvb1 hbox
  go_enter Tryz.func92, Tryz.ntmps92
  go_wp2_with fail
  rw [← hw1]
  have HW := hid hw1
  clear hw1
  go_loopg [0] q.length (fun k ev wr => ∃ r : PathS, r.length = k ∧ ErrV w1 c r ev ∧ wr = w1)
  case atStart => exact ⟨q, rfl, KP.out.2.2.2.2, rfl⟩
  case round =>
    obtain ⟨r, hr, hev, rfl⟩ := hrel
    have HR := hid hr
    clear hr
    cases r with
    | nil =>
      obtain rfl := hev
      have tO := typeOfC
      have a25 := assignableCC
      have v25 := valueOfCode
      go_wp2
      go_ret
      refine ⟨rfl, ?_, ?_⟩
      · have hb := KP.out.1.mono hBs
        exact (hb.alloc (by omega) _).setCell hB _
      · exact World.cell?_setCell_same _ _ _ (by rw [World.cell?_alloc_lt _ _ ⟨tb, 0, none⟩ (by simp; omega)]; exact KP.out.2.1)
    | cons a r =>
      obtain ⟨s, p⟩ := a
      obtain ⟨fb, inner, rfl, hblk, hin⟩ := hev
      obtain ⟨ti, xi, hform⟩ := hin.form
      subst hform
      have HI := hid (And.intro hblk hin)
      clear hblk hin
      have tO := typeOfFv
      have a25 := assignableFC
      have u1 := noAsF
      have u2 := unwrapF
      go_wp2_with (go_at_call 138; refine (unwrap_any fb s p _ _ (by exact HI.out.1)).mono ?_; rintro e w' ⟨rfl, rfl⟩)
      have hr := HR.out
      go_roundg (gk - 1)
      case measure => simp at hr; omega
      case rel => exact ⟨r, by simp at hr; omega, HI.out.2, rfl⟩
end Go.Proofs.YtkkgpdejmcpcpaaGreatDoor
/- errors.As, fault.Of, fault.Path at an error with a path: into a code, into a fault. -/
namespace Go.Proofs.YtkkgpdejmcpcpaaGreatDoor
open Go.RowKit Go.Extern.Stop Go.Stop Go.Extern ErrAs ErrPath

set_option maxHeartbeats 4000000 in
theorem as_path (c : Int) (q : PathS) (v : Value) (tb : Nat) (old : Value) (w : World) (B : Nat) (hv : ErrV w c q v) (hg : ErrT w) (ht0 : w.cell? ⟨tb, 0, none⟩ = some old) (hf0 : w.frozen? ⟨tb, 0, none⟩ = false) (hB : B ≤ tb) (hBs : B ≤ w.heap.size) :
    Calls Tryz.prog 73 #[v, .iface 142 (.pointer (some ⟨tb, 0, none⟩))] w fun ev w' => ev = .returned (.bool true) ∧ Below B w w' ∧ w'.cell? ⟨tb, 0, none⟩ = some (.int .i64 c) := by
  obtain ⟨t, ht⟩ : ∃ t : Addr, t = ⟨tb, 0, none⟩ := ⟨_, rfl⟩
  rw [← ht] at ht0 hf0 ⊢
  have h6 := @run_callFunc_extern Tryz.prog 89 _ (fun args => ReflectliteValue.unpack (args.getD 0 (.tuple #[]))) Tryz.func89 (by kernel_rfl) (by kernel_rfl) (by kernel_rfl) (by kernel_rfl)
  have h7 := @run_callFunc_extern Tryz.prog 90 _ (ReflectliteValue.methodAny (ReflectliteValue.valueError "reflectlite.Value.Type" 0) (fun t _ _ _ => ReflectliteType.toType t)) Tryz.func90 (by kernel_rfl) (by kernel_rfl) (by kernel_rfl) (by kernel_rfl)
  have h8 := @run_callFunc_extern Tryz.prog 91 _ (ReflectliteValue.method (ReflectliteValue.valueError "reflectlite.Value.IsNil" 0) ReflectliteValue.isNil) Tryz.func91 (by kernel_rfl) (by kernel_rfl) (by kernel_rfl) (by kernel_rfl)
  have h27 := @run_callFunc_extern Tryz.prog 117 _ (ReflectliteType.abiMethod fun t => do pure (.int .u8 (← Rtype.kind t))) Tryz.func117 (by kernel_rfl) (by kernel_rfl) (by kernel_rfl) (by kernel_rfl)
  have h37 := @run_callFunc_extern Tryz.prog 145 _ (ReflectliteType.method ReflectliteType.elem) Tryz.func145 (by kernel_rfl) (by kernel_rfl) (by kernel_rfl) (by kernel_rfl)
  have h38 := @run_callFunc_extern Tryz.prog 146 _ (ReflectliteType.relation "Implements" ReflectliteType.implements_) Tryz.func146 (by kernel_rfl) (by kernel_rfl) (by kernel_rfl) (by kernel_rfl)
  have h10 := @run_callFunc_extern Tryz.prog 99 _ ReflectliteType.typeOf Tryz.func99 (by kernel_rfl) (by kernel_rfl) (by kernel_rfl) (by kernel_rfl)
  have h35 := @run_callFunc_extern Tryz.prog 143 _ (ReflectliteType.relation "AssignableTo" ReflectliteType.assignableTo) Tryz.func143 (by kernel_rfl) (by kernel_rfl) (by kernel_rfl) (by kernel_rfl)
  have h11 := @run_callFunc_extern Tryz.prog 100 _ (ReflectliteValue.method (ReflectliteValue.valueError "reflectlite.Value.Elem" 0) ReflectliteValue.elem) Tryz.func100 (by kernel_rfl) (by kernel_rfl) (by kernel_rfl) (by kernel_rfl)
  have h12 := @run_callFunc_extern Tryz.prog 101 _ ReflectliteValue.set Tryz.func101 (by kernel_rfl) (by kernel_rfl) (by kernel_rfl) (by kernel_rfl)
  have f6 := valueOfC
  have f7 := typeC
  have mK := methodKind
  have mE := methodElem
  have mI := methodImplements
  have k27 := kindC
  have k25 := kindEC
  have e27 := elemC
  have i25 := implementsC
  have n8 := isNilC ⟨w.heap.size, 0, none⟩ t ((w.alloc (.cells #[.pointer (some t)] 142)).alloc (.cells #[.pointer (some ⟨1, 142, none⟩), .pointer (some ⟨w.heap.size, 0, none⟩), .int .u64 150] 158)) (by simp)
  have hlt : 0 < w.heap.size := hg.lt
  have hg2 : ((w.alloc (.cells #[.pointer (some t)] 142)).alloc (.cells #[.pointer (some ⟨1, 142, none⟩), .pointer (some ⟨w.heap.size, 0, none⟩), .int .u64 150] 158)).cell? ⟨0, 0, none⟩ = some (.iface 170 (.agg #[.pointer (some ⟨1, 39, none⟩)])) := by
    rw [World.cell?_alloc_lt _ _ ⟨0, 0, none⟩ (by simp), World.cell?_alloc_lt _ _ ⟨0, 0, none⟩ hlt]; exact hg
  have htl : t.block < w.heap.size := by
    rcases Nat.lt_or_ge t.block w.heap.size with h | h
    · exact h
    · simp [World.cell?, Array.getElem?_eq_none h] at ht0
  have IN : Hid (Calls Tryz.prog 92 #[v, .iface 142 (.pointer (some t)), .agg #[.pointer (some ⟨1, 142, none⟩), .pointer (some ⟨w.heap.size, 0, none⟩), .int .u64 150], .iface 170 (.agg #[.pointer (some ⟨1, 43, none⟩)])] ((w.alloc (.cells #[.pointer (some t)] 142)).alloc (.cells #[.pointer (some ⟨1, 142, none⟩), .pointer (some ⟨w.heap.size, 0, none⟩), .int .u64 150] 158)) fun e w' => e = .returned (.bool true) ∧ Below B w w' ∧ w'.cell? t = some (.int .i64 c)) := by
    have hb0 : Below w.heap.size w ((w.alloc (.cells #[.pointer (some t)] 142)).alloc (.cells #[.pointer (some ⟨1, 142, none⟩), .pointer (some ⟨w.heap.size, 0, none⟩), .int .u64 150] 158)) := ((Below.refl _ _).alloc (Nat.le_refl _) _).alloc (by simp) _
    refine Calls.mono (?_ : Calls _ _ _ _ fun e w' => e = .returned (.bool true) ∧ Below B _ w' ∧ w'.cell? t = some (.int .i64 c)) (fun e w' h => ⟨h.1, (hb0.mono hBs).trans h.2.1, h.2.2⟩)
    have hb0' := hb0
    rw [ht] at hb0' ⊢
    refine as_in c q v tb w.heap.size old _ B (hv.below hb0') ?_ ?_ ?_ hB (by simp; omega)
    · rw [← ht, hb0.cell htl]; exact ht0
    · rw [← ht, hb0.frozen htl]; exact hf0
    · rw [World.cell?_alloc_lt _ _ ⟨w.heap.size, 0, none⟩ (by simp), ← ht]; simp
  obtain ⟨tv, xv, hform⟩ := hv.form
  subst hform
  have HT := hid ht
  clear hv ht ht0 hf0 hg
  go_enter Tryz.func73, Tryz.ntmps73
  go_wp2_with (go_at_call 92; refine IN.out.mono ?_; rintro e w' ⟨rfl, hbb, hcc⟩)
  go_ret
  exact ⟨rfl, hbb, hcc⟩
set_option maxHeartbeats 4000000 in
theorem as_hit0 (f t : Addr) (old : Value) (w : World) (hg : ErrT w) (ht0 : w.cell? t = some old) (hf0 : w.frozen? t = false) :
    Calls Tryz.prog 73 #[.iface 130 (.pointer (some f)), .iface 143 (.pointer (some t))] w fun ev w' => ev = .returned (.bool true) ∧ w' = ((((w.alloc (.cells #[.pointer (some t)] 143)).alloc (.cells #[.pointer (some ⟨1, 143, none⟩), .pointer (some ⟨w.heap.size, 0, none⟩), .int .u64 150] 158)).alloc (.cells #[.pointer (some ⟨1, 143, none⟩), .pointer (some ⟨w.heap.size, 0, none⟩), .int .u64 150] 158)).alloc (.cells #[.pointer (some f)] 130)).setCell t (.pointer (some f)) := by
  have h6 := @run_callFunc_extern Tryz.prog 89 _ (fun args => ReflectliteValue.unpack (args.getD 0 (.tuple #[]))) Tryz.func89 (by kernel_rfl) (by kernel_rfl) (by kernel_rfl) (by kernel_rfl)
  have h7 := @run_callFunc_extern Tryz.prog 90 _ (ReflectliteValue.methodAny (ReflectliteValue.valueError "reflectlite.Value.Type" 0) (fun t _ _ _ => ReflectliteType.toType t)) Tryz.func90 (by kernel_rfl) (by kernel_rfl) (by kernel_rfl) (by kernel_rfl)
  have h8 := @run_callFunc_extern Tryz.prog 91 _ (ReflectliteValue.method (ReflectliteValue.valueError "reflectlite.Value.IsNil" 0) ReflectliteValue.isNil) Tryz.func91 (by kernel_rfl) (by kernel_rfl) (by kernel_rfl) (by kernel_rfl)
  have h27 := @run_callFunc_extern Tryz.prog 117 _ (ReflectliteType.abiMethod fun t => do pure (.int .u8 (← Rtype.kind t))) Tryz.func117 (by kernel_rfl) (by kernel_rfl) (by kernel_rfl) (by kernel_rfl)
  have h37 := @run_callFunc_extern Tryz.prog 145 _ (ReflectliteType.method ReflectliteType.elem) Tryz.func145 (by kernel_rfl) (by kernel_rfl) (by kernel_rfl) (by kernel_rfl)
  have h38 := @run_callFunc_extern Tryz.prog 146 _ (ReflectliteType.relation "Implements" ReflectliteType.implements_) Tryz.func146 (by kernel_rfl) (by kernel_rfl) (by kernel_rfl) (by kernel_rfl)
  have h10 := @run_callFunc_extern Tryz.prog 99 _ ReflectliteType.typeOf Tryz.func99 (by kernel_rfl) (by kernel_rfl) (by kernel_rfl) (by kernel_rfl)
  have h35 := @run_callFunc_extern Tryz.prog 143 _ (ReflectliteType.relation "AssignableTo" ReflectliteType.assignableTo) Tryz.func143 (by kernel_rfl) (by kernel_rfl) (by kernel_rfl) (by kernel_rfl)
  have h11 := @run_callFunc_extern Tryz.prog 100 _ (ReflectliteValue.method (ReflectliteValue.valueError "reflectlite.Value.Elem" 0) ReflectliteValue.elem) Tryz.func100 (by kernel_rfl) (by kernel_rfl) (by kernel_rfl) (by kernel_rfl)
  have h12 := @run_callFunc_extern Tryz.prog 101 _ ReflectliteValue.set Tryz.func101 (by kernel_rfl) (by kernel_rfl) (by kernel_rfl) (by kernel_rfl)
  have tO := typeOfFv
  have mA := methodAssignableTo
  have f6 := valueOfF
  have f7 := typeF
  have mK := methodKind
  have mE := methodElem
  have mI := methodImplements
  have k27 := kindF
  have k25 := kindEF
  have e27 := elemF
  have i25 := implementsF
  have n8 := isNilF ⟨w.heap.size, 0, none⟩ t ((w.alloc (.cells #[.pointer (some t)] 143)).alloc (.cells #[.pointer (some ⟨1, 143, none⟩), .pointer (some ⟨w.heap.size, 0, none⟩), .int .u64 150] 158)) (by simp)
  have hlt : 0 < w.heap.size := hg.lt
  have hg2 : ((w.alloc (.cells #[.pointer (some t)] 143)).alloc (.cells #[.pointer (some ⟨1, 143, none⟩), .pointer (some ⟨w.heap.size, 0, none⟩), .int .u64 150] 158)).cell? ⟨0, 0, none⟩ = some (.iface 170 (.agg #[.pointer (some ⟨1, 39, none⟩)])) := by
    rw [World.cell?_alloc_lt _ _ ⟨0, 0, none⟩ (by simp), World.cell?_alloc_lt _ _ ⟨0, 0, none⟩ hlt]; exact hg
  have a25 := assignableFF
  have v25 := valueOfFv
  have htl : t.block < w.heap.size := by
    rcases Nat.lt_or_ge t.block w.heap.size with h | h
    · exact h
    · simp [World.cell?, Array.getElem?_eq_none h] at ht0
  have el := elemVF ⟨w.heap.size, 0, none⟩ t (((w.alloc (.cells #[.pointer (some t)] 143)).alloc (.cells #[.pointer (some ⟨1, 143, none⟩), .pointer (some ⟨w.heap.size, 0, none⟩), .int .u64 150] 158)).alloc (.cells #[.pointer (some ⟨1, 143, none⟩), .pointer (some ⟨w.heap.size, 0, none⟩), .int .u64 150] 158)) (by rw [World.cell?_alloc_lt _ _ ⟨w.heap.size, 0, none⟩ (by simp; omega)]; simp)
  have st := setF t ⟨w.heap.size + 1 + 1 + 1, 0, none⟩ f old ((((w.alloc (.cells #[.pointer (some t)] 143)).alloc (.cells #[.pointer (some ⟨1, 143, none⟩), .pointer (some ⟨w.heap.size, 0, none⟩), .int .u64 150] 158)).alloc (.cells #[.pointer (some ⟨1, 143, none⟩), .pointer (some ⟨w.heap.size, 0, none⟩), .int .u64 150] 158)).alloc (.cells #[.pointer (some f)] 130))
    (by rw [World.cell?_alloc_at _ _ _ _ (by simp)]; rfl)
    (by rw [World.cell?_alloc_lt _ _ t (by simp; omega), World.cell?_alloc_lt _ _ t (by simp; omega), World.cell?_alloc_lt _ _ t (by simp; omega), World.cell?_alloc_lt _ _ t htl]; exact ht0)
    (by rw [World.frozen?_alloc_old _ _ t (by simp; omega), World.frozen?_alloc_old _ _ t (by simp; omega), World.frozen?_alloc_old _ _ t (by simp; omega), World.frozen?_alloc_old _ _ t (Nat.ne_of_lt htl)]; exact hf0)
  go_enter Tryz.func73, Tryz.ntmps73
  go_wp2
  refine wp_loop_rounds 1 ?_
  rw [rounds_succ]
  go_wp2
  go_ret
  exact ⟨rfl, rfl⟩
theorem as_hit (fb tb : Nat) (old : Value) (w : World) (hg : ErrT w) (ht0 : w.cell? ⟨tb, 0, none⟩ = some old) (hf0 : w.frozen? ⟨tb, 0, none⟩ = false) :
    Calls Tryz.prog 73 #[.iface 130 (.pointer (some ⟨fb, 0, none⟩)), .iface 143 (.pointer (some ⟨tb, 0, none⟩))] w fun ev w' => ev = .returned (.bool true) ∧ Only (· = tb) w w' ∧ w'.cell? ⟨tb, 0, none⟩ = some (.pointer (some ⟨fb, 0, none⟩)) := by
  refine (as_hit0 _ _ old w hg ht0 hf0).mono ?_
  rintro e w' ⟨rfl, rfl⟩
  have htl : tb < w.heap.size := World.block_lt_of_cell? _ _ ht0
  have hold : ((((w.alloc (.cells #[.pointer (some ⟨tb, 0, none⟩)] 143)).alloc (.cells #[.pointer (some ⟨1, 143, none⟩), .pointer (some ⟨w.heap.size, 0, none⟩), .int .u64 150] 158)).alloc (.cells #[.pointer (some ⟨1, 143, none⟩), .pointer (some ⟨w.heap.size, 0, none⟩), .int .u64 150] 158)).alloc (.cells #[.pointer (some ⟨fb, 0, none⟩)] 130)).cell? ⟨tb, 0, none⟩ = some old := by
    rw [World.cell?_alloc_lt _ _ ⟨tb, 0, none⟩ (by simp; omega), World.cell?_alloc_lt _ _ ⟨tb, 0, none⟩ (by simp; omega), World.cell?_alloc_lt _ _ ⟨tb, 0, none⟩ (by simp; omega), World.cell?_alloc_lt _ _ ⟨tb, 0, none⟩ htl]
    exact ht0
  exact ⟨rfl, Only.setCell (S := (· = tb)) (p := ⟨tb, 0, none⟩) (((((Only.refl _ w).alloc _).alloc _).alloc _).alloc _) (fun _ => rfl) _, World.cell?_setCell_same _ _ _ hold⟩
theorem of_path (c : Int) (q : PathS) (v : Value) (w : World) (hv : ErrV w c q v) (hg : ErrT w) : Calls Tryz.prog 45 #[v] w fun e w' => e = .returned (.int .i64 c) ∧ Below w.heap.size w w' := by
  have hlt := hg.lt
  have hb0 : Below w.heap.size w (w.alloc (.cells #[.int .i64 0] 43)) := (Below.refl w.heap.size w).alloc (Nat.le_refl _) _
  have hg2 : ErrT (w.alloc (.cells #[.int .i64 0] 43)) := hg.below hb0 hlt
  have HG := hid (And.intro hg2 (hv.below hb0))
  obtain ⟨tv, xv, hform⟩ := hv.form
  subst hform
  clear hg hg2 hv hb0
  go_enter Tryz.func45, Tryz.ntmps45
  go_wp2_with fail
  refine (as_path c q _ w.heap.size (.int .i64 0) _ w.heap.size (by exact HG.out.2) HG.out.1 (by simp) (by simp) (Nat.le_refl _) (by simp)).mono ?_
  rintro e w' ⟨rfl, hb, hc⟩
  have B := hid hb
  clear hb
  go_wp2_with fail
  go_ret
  exact ⟨rfl, ((Below.refl w.heap.size w).alloc (Nat.le_refl _) _).trans B.out⟩
end Go.Proofs.YtkkgpdejmcpcpaaGreatDoor
/- fault.Path at an error with a path. -/
namespace Go.Proofs.YtkkgpdejmcpcpaaGreatDoor
open Go.RowKit

theorem info_step : (Tryz.prog.info? 106).map (fun i => (i.zero, i.size, i.bytes)) = some (some (.agg #[.string ⟨#[]⟩, .int .i64 0]), 2, 24) := by kernel_rfl
def stepCells (q : PathS) : List Value := q.flatMap fun a => [.string a.1, .int .i64 a.2]
theorem stepCells_append (q r : PathS) : stepCells (q ++ r) = stepCells q ++ stepCells r := List.flatMap_append
theorem stepCells_len (q : PathS) : (stepCells q).length = q.length * 2 := by
  induction q with
  | nil => rfl
  | cons a q ih => unfold stepCells at *; rw [List.flatMap_cons, List.length_append, ih]; simp; omega
theorem stepCells_at (q : PathS) : ∀ (i : Nat) (a : ByteArray × Int), q[i]? = some a → (stepCells q)[i * 2]? = some (.string a.1) ∧ (stepCells q)[i * 2 + 1]? = some (.int .i64 a.2) := by
  induction q with
  | nil => intro i a h; simp at h
  | cons b q ih =>
    intro i a h
    have e : stepCells (b :: q) = .string b.1 :: .int .i64 b.2 :: stepCells q := rfl
    rw [e]
    cases i with
    | zero =>
      simp at h
      subst h
      exact ⟨rfl, rfl⟩
    | succ i =>
      have := ih i a (by simpa using h)
      rw [show (i + 1) * 2 = i * 2 + 1 + 1 by omega]
      simpa using this
theorem blk_from2 {w : World} {g : Nat} {t : TypeId} {cs : Array Value} {c m : Nat} (h : Blk w g t cs) (hs : cs.size = m * 2) : From w 2 (.slice (some ⟨g, 0, none⟩) m c) m cs.toList := by
  refine ⟨_, _, rfl, by simpa using hs, fun _ => ⟨_, rfl, fun j u hu => ?_⟩⟩
  have : ((⟨g, 0, none⟩ : Addr).add j) = ⟨g, j, none⟩ := by unfold Addr.add; split <;> simp_all
  rw [this, h.cell]
  simpa using hu
/-- What holds while a path is told. -/
structure PathRel (w : World) (c : Int) (q pre r : PathS) (lv ev : Value) (wr : World) : Prop where
  eq : q = pre ++ r
  own : wr.ownsRow (w.heap.size + 1) 106 2 lv pre.length (stepCells pre)
  ev : ErrV wr c r ev
  bel : Below w.heap.size w wr
  box : ∃ z, Blk wr w.heap.size 130 #[z]
  et : ErrT wr
theorem own_keep2 {w w' : World} {S : Nat → Prop} {B size n : Nat} {t : TypeId} {v : Value} {xs : List Value} (h : w.ownsRow B t size v n xs) (ho : Only S w w') (hv : ∀ k, v.ownBlock = some k → ¬ S k) : w'.ownsRow B t size v n xs := by
  refine ⟨h.1, ?_⟩
  rcases h.2 with hn | ⟨g, cap, cur, hv', hb, hg, hr⟩
  · exact .inl hn
  · refine .inr ⟨g, cap, cur, hv', hb, ?_, hr⟩
    have hlt := (Array.getElem?_eq_some_iff.1 hg).1
    rw [ho.block g hlt (hv g (by rw [hv']; rfl))]
    exact hg
theorem ErrV.only {w w' : World} {S : Nat → Prop} {c : Int} (ho : Only S w w') (hS : ∀ k cs, S k → ¬ Blk w k 132 cs) : ∀ {q : PathS} {v : Value}, ErrV w c q v → ErrV w' c q v := by
  intro q
  induction q with
  | nil => intro v h; exact h
  | cons a r ih =>
    obtain ⟨s, p⟩ := a
    rintro v ⟨fb, inner, h1, h2, h3⟩
    exact ⟨fb, inner, h1, h2.keep ho (fun hs => hS fb _ hs h2), ih h3⟩
/-- The slice v reads as these steps. -/
def Steps (w : World) (v : Value) (q : PathS) : Prop :=
  ∃ A c, v = .slice A q.length c ∧ (q ≠ [] → ∃ b off, A = some ⟨b, off, none⟩ ∧ b < w.heap.size ∧ ∀ (i : Nat) (a : ByteArray × Int), q[i]? = some a →
    w.cell? ⟨b, off + i * 2, none⟩ = some (.string a.1) ∧ w.cell? ⟨b, off + i * 2 + 1, none⟩ = some (.int .i64 a.2))
theorem Steps.keep {w w' : World} {v : Value} {q : PathS} (h : Steps w v q) (hs : w.heap.size ≤ w'.heap.size) (hk : ∀ k, k < w.heap.size → w'.heap[k]? = w.heap[k]?) : Steps w' v q := by
  obtain ⟨A, c, h1, h2⟩ := h
  refine ⟨A, c, h1, fun hne => ?_⟩
  obtain ⟨b, off, h3, h4, h5⟩ := h2 hne
  refine ⟨b, off, h3, by omega, fun i a ha => ?_⟩
  obtain ⟨h6, h7⟩ := h5 i a ha
  exact ⟨(World.cell?_of_block (w := w) (a := ⟨b, _, none⟩) (hk b h4)).trans h6, (World.cell?_of_block (w := w) (a := ⟨b, _, none⟩) (hk b h4)).trans h7⟩
theorem Steps.below {w w' : World} {v : Value} {q : PathS} (h : Steps w v q) (hb : Below w.heap.size w w') : Steps w' v q := h.keep hb.size hb.block
theorem Steps.only {w w' : World} {S : Nat → Prop} {v : Value} {q : PathS} (h : Steps w v q) (ho : Only S w w') (hv : ∀ k, v.ownBlock = some k → ¬ S k) : Steps w' v q := by
  obtain ⟨A, c, rfl, h2⟩ := h
  refine ⟨A, c, rfl, fun hne => ?_⟩
  obtain ⟨b, off, rfl, h4, h5⟩ := h2 hne
  refine ⟨b, off, rfl, Nat.lt_of_lt_of_le h4 ho.size, fun i a ha => ?_⟩
  obtain ⟨h6, h7⟩ := h5 i a ha
  have hk := ho.block b h4 (hv b rfl)
  exact ⟨(World.cell?_of_block (w := w) (a := ⟨b, _, none⟩) hk).trans h6, (World.cell?_of_block (w := w) (a := ⟨b, _, none⟩) hk).trans h7⟩
theorem Steps.nil (w : World) (c : Nat) : Steps w (.slice none 0 c) [] := ⟨none, c, rfl, fun h => absurd rfl h⟩
theorem steps_of_own {w : World} {B : Nat} {t : TypeId} {v : Value} {q : PathS} (h : w.ownsRow B t 2 v q.length (stepCells q)) : Steps w v q := by
  rcases h.2 with ⟨rfl, h0⟩ | ⟨g, cap, cur, rfl, _, hg, _⟩
  · rw [List.eq_nil_of_length_eq_zero h0]
    exact Steps.nil w 0
  · refine ⟨some ⟨g, 0, none⟩, cap, rfl, fun _ => ⟨g, 0, rfl, (Array.getElem?_eq_some_iff.1 hg).1, fun i a ha => ?_⟩⟩
    obtain ⟨h1, h2⟩ := stepCells_at q i a ha
    have hi := (List.getElem?_eq_some_iff.1 ha).1
    rw [Nat.zero_add]
    exact ⟨(h.cellAt (i * 2) (by omega)).trans h1, (h.cellAt (i * 2 + 1) (by omega)).trans h2⟩
theorem Steps.at_ {w : World} {A : Option Addr} {c : Nat} {q : PathS} (h : Steps w (.slice A q.length c) q) (i : Nat) (hi : i < q.length) :
    ∃ b off a, A = some ⟨b, off, none⟩ ∧ b < w.heap.size ∧ q[i]? = some a ∧ w.cell? ⟨b, off + i * 2, none⟩ = some (.string a.1) ∧ w.cell? ⟨b, off + i * 2 + 1, none⟩ = some (.int .i64 a.2) := by
  obtain ⟨A', c', e, h2⟩ := h
  injection e with e1 e2 e3
  subst e1
  obtain ⟨b, off, h3, h4, h5⟩ := h2 (by rintro rfl; simp at hi)
  obtain ⟨h6, h7⟩ := h5 i q[i] (List.getElem?_eq_getElem hi)
  exact ⟨b, off, q[i], h3, h4, List.getElem?_eq_getElem hi, h6, h7⟩
end Go.Proofs.YtkkgpdejmcpcpaaGreatDoor
/- fault.Path at an error with a path: the walk. -/
namespace Go.Proofs.YtkkgpdejmcpcpaaGreatDoor
open Go.RowKit

theorem stepCells_snoc (q : PathS) (s : ByteArray) (p : Int) : stepCells q ++ [.string s, .int .i64 p] = stepCells (q ++ [(s, p)]) := by rw [stepCells_append]; rfl
theorem as_hitb (fb tb : Nat) (t : TypeId) (z : Value) (w : World) (hg : ErrT w) (hb : Blk w tb t #[z]) :
    Calls Tryz.prog 73 #[.iface 130 (.pointer (some ⟨fb, 0, none⟩)), .iface 143 (.pointer (some ⟨tb, 0, none⟩))] w fun ev w' => ev = .returned (.bool true) ∧ Only (· = tb) w w' ∧ Blk w' tb t #[.pointer (some ⟨fb, 0, none⟩)] := by
  refine (as_hit0 _ _ z w hg (by have := hb.cell 0; simpa using this) (hb.frozen 0)).mono ?_
  rintro e w' ⟨rfl, rfl⟩
  refine ⟨rfl, Only.setCell (S := (· = tb)) (p := ⟨tb, 0, none⟩) (((((Only.refl _ w).alloc _).alloc _).alloc _).alloc _) (fun _ => rfl) _, ?_⟩
  have := ((((hb.alloc (.cells #[.pointer (some ⟨tb, 0, none⟩)] 143)).alloc (.cells #[.pointer (some ⟨1, 143, none⟩), .pointer (some ⟨w.heap.size, 0, none⟩), .int .u64 150] 158)).alloc (.cells #[.pointer (some ⟨1, 143, none⟩), .pointer (some ⟨w.heap.size, 0, none⟩), .int .u64 150] 158)).alloc (.cells #[.pointer (some ⟨fb, 0, none⟩)] 130)).put 0 (.pointer (some ⟨fb, 0, none⟩))
  simpa using this
def PathRes (q : PathS) (w : World) (e : Ending) (w' : World) : Prop := ∃ pv, e = .returned pv ∧ Steps w' pv q ∧ Below w.heap.size w w'
set_option maxRecDepth 100000 in
set_option maxHeartbeats 2000000 in
theorem path_path (c : Int) (q : PathS) (v : Value) (w : World) (hv : ErrV w c q v) (hg : ErrT w) (hq : q.length ≤ 1000) : Calls Tryz.prog 46 #[v] w (PathRes q w) := by
  obtain ⟨i0, hi0, hz0, hz1, hz2⟩ := info_parts info_step
  have IP := hid (And.intro hi0 (And.intro hz0 (And.intro hz1 hz2)))
  clear hi0 hz0 hz1 hz2
  have hpos := hg.lt
  have hb0 : Below w.heap.size w (w.alloc (.cells #[.pointer none] 130)) := (Below.refl w.heap.size w).alloc (Nat.le_refl _) _
  have P0 : Hid (PathRel w c q [] q (.slice none 0 0) v (w.alloc (.cells #[.pointer none] 130))) :=
    ⟨rfl, World.ownsRow_nil _ _ _ _, hv.below hb0, hb0, ⟨_, Blk.new _ _ _⟩, hg.below hb0 hg.lt⟩
  clear hv hg hb0
  go_enter Tryz.func46, Tryz.ntmps46
  go_wp2_with fail
  go_loopg [3, 5] q.length (fun k lv ev wr => ∃ (pre r : PathS), r.length = k ∧ PathRel w c q pre r lv ev wr)
  case atStart => exact ⟨[], q, rfl, P0.out⟩
  case round =>
    clear P0
    obtain ⟨pre, r, hr, hP⟩ := hrel
    have HR := hid hr
    clear hr
    cases r with
    | nil =>
      obtain rfl := hP.ev
      have P := hid hP
      clear hP
      go_wp2_with fail
      refine (as_fault c ⟨w.heap.size, 0, none⟩ _ P.out.et).mono ?_
      rintro e w' ⟨rfl, hb⟩
      have B := hid hb
      clear hb
      go_wp2_with fail
      go_ret
      have hq : q = pre := by have := P.out.eq; simpa using this
      refine ⟨_, rfl, ?_, P.out.bel.trans (B.out.mono P.out.bel.size)⟩
      have := own_keep2 (S := fun _ => False) P.out.own ⟨B.out.os, B.out.tape, B.out.output, B.out.size, fun k hk _ => B.out.block k hk⟩ (fun _ _ h => h)
      rw [hq]
      exact steps_of_own this
    | cons a r =>
      obtain ⟨s, p⟩ := a
      obtain ⟨fb, inner, rfl, hblk, hin⟩ := hP.ev
      obtain ⟨z, hbox⟩ := hP.box
      have hl : pre.length + 1 ≤ 1000 := by have := congrArg List.length hP.eq; simp at this; omega
      have P := hid (And.intro hP (And.intro hblk (And.intro hin hbox)))
      clear hP hblk hin hbox
      go_wp2_with fail
      refine (as_hitb fb w.heap.size _ z _ P.out.1.et (by exact P.out.2.2.2)).mono ?_
      rintro e w2 ⟨rfl, ho, hbox2⟩
      have hc : w2.cell? ⟨w.heap.size, 0, none⟩ = some (.pointer (some ⟨fb, 0, none⟩)) := by have := hbox2.cell 0; simpa using this
      have hne : fb ≠ w.heap.size := P.out.2.1.apart P.out.2.2.2 (by decide)
      have hblk2 := P.out.2.1.keep ho hne
      have hS : ∀ k cs, k = w.heap.size → ¬ Blk wr k 132 cs := by
        rintro k cs rfl hk
        exact hk.apart P.out.2.2.2 (by decide) rfl
      have hin2 := ErrV.only ho hS P.out.2.2.1
      have hown2 := own_keep2 P.out.1.own ho (fun k hk => by have := (P.out.1.own.lt k hk).1; omega)
      have hbel2 : Below w.heap.size w w2 := P.out.1.bel.trans ⟨ho.os, ho.tape, ho.output, ho.size, fun k hk => ho.block k (by have := P.out.1.bel.size; omega) (by omega)⟩
      have het2 : ErrT w2 := P.out.1.et.below (B := w.heap.size) ⟨ho.os, ho.tape, ho.output, ho.size, fun k hk => ho.block k (by have := P.out.1.bel.size; omega) (by omega)⟩ hpos
      have P2 := hid (And.intro hblk2 (And.intro hin2 (And.intro hown2 (And.intro hbel2 (And.intro het2 hbox2)))))
      have f0 := hblk2.cell 0
      have f1 := hblk2.cell 1
      have f2 := hblk2.cell 2
      simp at f0 f1 f2
      have hfl := hblk2.lt
      have hbl := hbox2.lt
      have KC : Hid (∀ (o : Obj) (p : Addr), p.block < w2.heap.size → (w2.alloc o).drew.cell? p = w2.cell? p) := fun o p h => World.cell?_alloc_lt _ _ _ h
      clear ho hblk2 hin2 hown2 hbel2 het2 hbox2 hS
      go_wp2_with fail
      go_region_held3 (fun W => W.cell? ⟨w.heap.size, 0, none⟩ = some (.pointer (some ⟨fb, 0, none⟩)) ∧ W.cell? ⟨fb, 0, none⟩ = some (.string s) ∧ W.cell? ⟨fb, 1, none⟩ = some (.int .i64 p))
        (first
          | exact ⟨hc, f0, f1⟩
          | exact ⟨gb, g0, g1⟩
          | exact ⟨(KC.out _ ⟨w.heap.size, 0, none⟩ hbl).trans hc, (KC.out _ ⟨fb, 0, none⟩ hfl).trans f0, (KC.out _ ⟨fb, 1, none⟩ hfl).trans f1⟩)
        (first
          | ((refine step_append_form _ (by rfl) (.tmp 14) (.tmp 24) _ (by rfl) (w.heap.size + 1) 106 i0 (.agg #[.string ⟨#[]⟩, .int .i64 0]) 2 24 Tryz.underlying103 IP.out.1 IP.out.2.1 IP.out.2.2.1 IP.out.2.2.2 rfl (by omega) u3 pre.length (stepCells pre) (by rfl) (by first | exact (P2.out.2.2.1.drew).alloc _ | exact (P2.out.2.2.1.alloc _).drew) (.slice (some ⟨w2.heap.size, 0, none⟩) 1 1) 1 [.string s, .int .i64 p] (by rfl) (by first | exact blk_from2 (Blk.new w2 106 #[.string s, .int .i64 p]) rfl | exact blk_from2 (Blk.new w2.drew 106 #[.string s, .int .i64 p]) rfl) (by simp [Value.oneCell']) (.inr (by omega)) (by unfold maxLen; omega) (by omega) (by have := P2.out.2.2.2.2.2.lt; simp; omega) (pre ++ [(s, p)]).length (stepCells (pre ++ [(s, p)])) (by simp) (stepCells_snoc _ _ _) ?_
              intro g cap w3 hown hgrow hat hlt1
              have hz3 := hgrow.size
              have hrw : u3.ownBlock ≠ some fb := fun e => by
                rcases P2.out.2.2.1.2 with ⟨h1, _⟩ | ⟨g0, c0, cur, h1, _, h2, _⟩
                · rw [h1] at e; simp [Value.ownBlock] at e
                · rw [h1] at e
                  simp [Value.ownBlock] at e
                  subst e
                  exact absurd rfl (Blk.apart (t := 106) h2 P2.out.1 (by decide))
              have gb : w3.cell? ⟨w.heap.size, 0, none⟩ = some (.pointer (some ⟨fb, 0, none⟩)) := by
                have h1 := hgrow.block w.heap.size (by simp; omega) (fun e => by have := (P2.out.2.2.1.lt _ e.symm).1; omega)
                rw [World.cell?_of_block (a := ⟨w.heap.size, 0, none⟩) h1]
                exact (KC.out _ ⟨w.heap.size, 0, none⟩ hbl).trans hc
              have hfb := hgrow.block fb (by simp; omega) (fun e => hrw e.symm)
              have gf : w3.cell? ⟨fb, 2, none⟩ = some inner := by
                rw [World.cell?_of_block (a := ⟨fb, 2, none⟩) hfb]
                exact (KC.out _ ⟨fb, 2, none⟩ hfl).trans f2
              have g0 : w3.cell? ⟨fb, 0, none⟩ = some (.string s) := by
                rw [World.cell?_of_block (a := ⟨fb, 0, none⟩) hfb]
                exact (KC.out _ ⟨fb, 0, none⟩ hfl).trans f0
              have g1 : w3.cell? ⟨fb, 1, none⟩ = some (.int .i64 p) := by
                rw [World.cell?_of_block (a := ⟨fb, 1, none⟩) hfb]
                exact (KC.out _ ⟨fb, 1, none⟩ hfl).trans f1
              clear hfb hrw)))
      all_goals
        have P3 : Hid (PathRel w c q (pre ++ [(s, p)]) r (.slice (some ⟨g, 0, none⟩) (pre ++ [(s, p)]).length cap) inner w3) := by
          have hbd : Below w2.heap.size w2 ((w2.alloc (.cells #[.string s, .int .i64 p] 106)).drew) := ((Below.refl _ _).alloc (Nat.le_refl _) _).drew
          have hon : Only (fun k => u3.ownBlock = some k) w2 w3 := ⟨hgrow.os.trans hbd.os, hgrow.tape.trans hbd.tape, hgrow.output.trans hbd.output, Nat.le_trans hbd.size hgrow.size, fun k hk hn => (hgrow.block k (by have := hbd.size; omega) (fun e => hn e.symm)).trans (hbd.block k hk)⟩
          have hrow : ∀ k cs, u3.ownBlock = some k → ¬ Blk w2 k 132 cs := by
            intro k cs e hk
            rcases P2.out.2.2.1.2 with ⟨h1, _⟩ | ⟨g0, c0, cur, h1, _, h2, _⟩
            · rw [h1] at e; simp [Value.ownBlock] at e
            · rw [h1] at e
              simp [Value.ownBlock] at e
              subst e
              exact absurd rfl (Blk.apart (t := 106) h2 hk (by decide))
          have hbase : ∀ k, u3.ownBlock = some k → w.heap.size + 1 ≤ k := fun k e => (P2.out.2.2.1.lt k e).1
          refine ⟨by rw [P.out.1.eq]; simp, hown, ErrV.only hon hrow P2.out.2.1, ?_, ⟨_, P2.out.2.2.2.2.2.keep hon (fun e => by have := hbase _ e; omega)⟩, ?_⟩
          · exact P2.out.2.2.2.1.trans ⟨hon.os, hon.tape, hon.output, hon.size, fun k hk => hon.block k (by omega) (fun e => by have := hbase _ e; omega)⟩
          · exact P2.out.2.2.2.2.1.below (B := w.heap.size) ⟨hon.os, hon.tape, hon.output, hon.size, fun k hk => hon.block k (by omega) (fun e => by have := hbase _ e; omega)⟩ hpos
        clear hgrow hown hat hlt1 f0 f1 f2 hc
        go_wp2_with fail
        have hr := HR.out
        go_roundg (gk - 1)
        case measure => simp at hr; omega
        case rel =>
          have h3 := P3.out
          rw [List.length_append] at h3
          exact ⟨pre ++ [(s, p)], r, by simp at hr; omega, h3⟩
end Go.Proofs.YtkkgpdejmcpcpaaGreatDoor
/- kinsame.Err at an error with a path; fault.In; kinref.Wrap. -/
namespace Go.Proofs.YtkkgpdejmcpcpaaGreatDoor
open Go.RowKit

/-- What holds while an error with a path is held against the document's. -/
structure Evp (w : World) (ob : Nat) (c : Int) (q : PathS) (v pv : Value) (W : World) : Prop where
  et : ErrT W
  bel : Below w.heap.size w W
  blk : Blk W ob 46 #[.int .i64 c, pv]
  ev : ErrV W c q v
  st : Steps W pv q
theorem Evp.step {w W W' : World} {ob : Nat} {c : Int} {q : PathS} {v pv : Value} (h : Evp w ob c q v pv W) (hb : Below W.heap.size W W') : Evp w ob c q v pv W' :=
  ⟨h.et.below hb h.et.lt, h.bel.trans (hb.mono h.bel.size), h.blk.below hb h.blk.lt, h.ev.below hb, h.st.below hb⟩
theorem Evp.drew {w W : World} {ob : Nat} {c : Int} {q : PathS} {v pv : Value} (h : Evp w ob c q v pv W) : Evp w ob c q v pv W.drew := h.step (Below.refl _ W).drew
theorem Evp.cells {w W : World} {ob : Nat} {c : Int} {q : PathS} {v pv : Value} (h : Evp w ob c q v pv W) : W.cell? ⟨ob, 0, none⟩ = some (.int .i64 c) ∧ W.cell? ⟨ob, 1, none⟩ = some pv :=
  ⟨by simpa using h.blk.cell 0, by simpa using h.blk.cell 1⟩
set_option maxRecDepth 100000 in
set_option maxHeartbeats 1600000 in
theorem err_path (c : Int) (q : PathS) (v pv : Value) (w : World) (hv : ErrV w c q v) (hp : Steps w pv q) (hg : ErrT w) (hc : c ≠ 0) (hq : q.length ≤ 1000) : Calls Tryz.prog 14 #[v, .agg #[.int .i64 c, pv]] w fun e w' => e = .returned (.bool true) ∧ Below w.heap.size w w' := by
  obtain ⟨A, cap, rfl, _⟩ := id hp
  have hb0 : Below w.heap.size w (w.alloc (.cells #[.int .i64 c, .slice A q.length cap] 46)) := (Below.refl w.heap.size w).alloc (Nat.le_refl _) _
  have EV : Hid (Evp w w.heap.size c q v (.slice A q.length cap) (w.alloc (.cells #[.int .i64 c, .slice A q.length cap] 46))) := ⟨hg.below hb0 hg.lt, hb0, Blk.new _ _ _, hv.below hb0, hp.below hb0⟩
  obtain ⟨tv, xv, hform⟩ := hv.form
  subst hform
  clear hg hb0 hv hp
  have h1 : (c == 0) = false := by simpa using hc
  clear hc
  go_enter Tryz.func14, Tryz.ntmps14
  go_wp2_with fail
  obtain ⟨b0, b1⟩ := EV.out.cells
  generalize w.alloc (.cells #[.int .i64 c, .slice A q.length cap] 46) = wq at *
  go_region_held3 (fun W => W.cell? ⟨w.heap.size, 0, none⟩ = some (.int .i64 c) ∧ W.cell? ⟨w.heap.size, 1, none⟩ = some (.slice A q.length cap))
    (first
      | exact ⟨b0, b1⟩
      | exact ⟨d0, d1⟩
      | exact ⟨f0, f1⟩)
    (first
      | (go_at_call 38
         refine (err_ok _ _ _).mono ?_
         rintro e w2 ⟨rfl, hb2⟩
         have E2 := hid (Evp.step (by first | exact EV.out | exact EV.out.drew) hb2)
         obtain ⟨d0, d1⟩ := E2.out.cells
         clear hb2)
      | (go_at_call 45
         refine (of_path c q _ _ (by exact E2.out.ev) (by exact E2.out.et)).mono ?_
         rintro e w3 ⟨rfl, hb3⟩
         have E3 := hid (E2.out.step hb3)
         obtain ⟨f0, f1⟩ := E3.out.cells
         clear hb3))
  all_goals
    go_wp2_with fail
    refine (path_path c q _ _ (by first | exact E3.out.ev | exact E3.out.drew.ev) (by first | exact E3.out.et | exact E3.out.drew.et) hq).mono ?_
    rintro e w4 ⟨pv2, rfl, hst, hb4⟩
    have E4 := hid (Evp.step (by first | exact E3.out | exact E3.out.drew) hb4)
    obtain ⟨g0, g1⟩ := E4.out.cells
    obtain ⟨A2, cap2, rfl, _⟩ := id hst
    have ST := hid hst
    clear hb4 hst b0 b1 d0 d1 f0 f1
    go_wp2_with fail
    go_loopg [6] q.length (fun k i wr => ∃ j : Nat, j + k = q.length ∧ i = .int .i64 j ∧ ∃ n, wr = w4.drewN n)
    case atStart => exact ⟨0, by omega, rfl, 0, rfl⟩
    case round =>
      obtain ⟨j, hj, rfl, n, rfl⟩ := hrel
      by_cases hlt : j < q.length
      · obtain ⟨x1, o1, a, rfl, _, ha, p1, p2⟩ := ST.out.at_ j hlt
        obtain ⟨x2, o2, a2, rfl, _, ha2, p3, p4⟩ := E4.out.st.at_ j hlt
        obtain rfl : a = a2 := Option.some.inj (ha.symm.trans ha2)
        have k0 : (0 : Int) ≤ (j : Int) := by omega
        have k1 : (j : Int) < (q.length : Int) := by omega
        have n2 : (a.2 != a.2) = false := by simp
        have HJ := hid (And.intro hj hlt)
        clear ha ha2 hj
        go_wp2_with fail
        go_quiet (fail)
        go_wp2_with fail
        have hjj := HJ.out
        go_roundg (gk - 1)
        case measure => omega
        case rel => exact ⟨j + 1, by omega, by go_num, _, rfl⟩
      · have hge : q.length ≤ j := by omega
        have j1 : decide ((j : Int) < (q.length : Int)) = false := by simp; omega
        go_wp2_with fail
        go_ret
        exact ⟨rfl, ⟨E4.out.bel.os, E4.out.bel.tape, E4.out.bel.output, E4.out.bel.size, E4.out.bel.block⟩⟩
end Go.Proofs.YtkkgpdejmcpcpaaGreatDoor

