/- errors.As, fault.Of, fault.Path at an error with a path. -/
import Derived.Test.YtabklmkdneoaaaaDoorErrSame
import Derived.Test.YtabklmkdneoaaaaDoorAppend
import Derived.Deep.LoopGhost
import Derived.Outline
namespace Go.Proofs.YtabklmkdneoaaaaDoor
open Go.RowKit Go.Extern.Stop Go.Stop Go.Extern ErrAs

/-- A path: where, at which place; the outermost first. -/
abbrev PathS := List (ByteArray × Int)
/-- The value v is an error of code c that came through these places. -/
def ErrV (w : World) (c : Int) : PathS → Value → Prop
  | [], v => v = .iface 29 (.int .i64 c)
  | (s, p) :: r, v => ∃ fb inner, v = .iface 151 (.pointer (some ⟨fb, 0, none⟩)) ∧ Blk w fb 154 #[.string s, .int .i64 p, inner] ∧ ErrV w c r inner
theorem ErrV.keep {w w' : World} {c : Int} (hk : ∀ k, k < w.heap.size → w'.heap[k]? = w.heap[k]?) : ∀ {q : PathS} {v : Value}, ErrV w c q v → ErrV w' c q v := by
  intro q
  induction q with
  | nil => intro v h; exact h
  | cons a r ih =>
    obtain ⟨s, p⟩ := a
    rintro v ⟨fb, inner, h1, h2, h3⟩
    exact ⟨fb, inner, h1, (hk fb h2.lt).trans h2, ih h3⟩
theorem ErrV.below {w w' : World} {c : Int} {q : PathS} {v : Value} (h : ErrV w c q v) (hb : Below w.heap.size w w') : ErrV w' c q v := h.keep hb.block
theorem ErrV.form {w : World} {c : Int} {q : PathS} {v : Value} (h : ErrV w c q v) : ∃ t x, v = .iface t x := by
  cases q with
  | nil => exact ⟨_, _, h⟩
  | cons a r =>
    obtain ⟨fb, inner, h1, _⟩ := h
    exact ⟨_, _, h1⟩

namespace ErrPath
/-! ### Closed facts at a fault. -/
theorem typeOfFv (v : Value) (w : World) : (ReflectliteType.typeOf #[.iface 151 v]).run Tryd.prog w = .ok (.iface 169 (.agg #[.pointer (some ⟨1, 151, none⟩)])) w := by kernel_rfl
theorem assignableFC (w : World) : (ReflectliteType.relation "AssignableTo" ReflectliteType.assignableTo #[.agg #[.pointer (some ⟨1, 151, none⟩)], .iface 169 (.agg #[.pointer (some ⟨1, 29, none⟩)])]).run Tryd.prog w = .ok (.bool false) w := by kernel_rfl
theorem assignableFF (w : World) : (ReflectliteType.relation "AssignableTo" ReflectliteType.assignableTo #[.agg #[.pointer (some ⟨1, 151, none⟩)], .iface 169 (.agg #[.pointer (some ⟨1, 151, none⟩)])]).run Tryd.prog w = .ok (.bool true) w := by kernel_rfl
theorem valueOfFv (p : Addr) (w : World) : (ReflectliteValue.unpack (.iface 151 (.pointer (some p)))).run Tryd.prog w
    = .ok (.agg #[.pointer (some ⟨1, 151, none⟩), .pointer (some ⟨w.heap.size, 0, none⟩), .int .u64 150]) (w.alloc (.cells #[.pointer (some p)] 151)) := by kernel_rfl
theorem elemOfF (w : World) : (Rtype.elem? 152).run Tryd.prog w = .ok (some 151) w := by kernel_rfl
theorem mkF (p : Addr) (w : World) : (ReflectliteValue.mk 151 p ReflectliteValue.flagAddr).run Tryd.prog w = .ok (.agg #[.pointer (some ⟨1, 151, none⟩), .pointer (some p), .int .u64 406]) w := by kernel_rfl
theorem elemVF (a p : Addr) (W : World) (ha : W.cell? a = some (.pointer (some p))) :
    (ReflectliteValue.method (ReflectliteValue.valueError "reflectlite.Value.Elem" 0) ReflectliteValue.elem #[.agg #[.pointer (some ⟨1, 152, none⟩), .pointer (some a), .int .u64 150]]).run Tryd.prog W
      = .ok (.agg #[.pointer (some ⟨1, 151, none⟩), .pointer (some p), .int .u64 406]) W := by
  rw [rlm]
  simp only [Sem.run_bind, partsF, Result.andThen]
  simp [ReflectliteValue.elem, loadVar, isAgg, underlying, Tryd.underlying152, ha, Result.andThen, elemOfF, mkF]
theorem partsFa (a : Addr) (w : World) : (ReflectliteValue.parts (.agg #[.pointer (some ⟨1, 151, none⟩), .pointer (some a), .int .u64 406])).run Tryd.prog w = .ok (some (151, a, 406)) w := by kernel_rfl
theorem partsFb (a : Addr) (w : World) : (ReflectliteValue.parts (.agg #[.pointer (some ⟨1, 151, none⟩), .pointer (some a), .int .u64 150])).run Tryd.prog w = .ok (some (151, a, 150)) w := by kernel_rfl
theorem directF (w : World) : (Rtype.directlyAssignable 151 151).run Tryd.prog w = .ok true w := by kernel_rfl
theorem setF (ta b p : Addr) (old : Value) (W : World) (hb : W.cell? b = some (.pointer (some p))) (ht : W.cell? ta = some old) (hf : W.frozen? ta = false) :
    (ReflectliteValue.set #[.agg #[.pointer (some ⟨1, 151, none⟩), .pointer (some ta), .int .u64 406], .agg #[.pointer (some ⟨1, 151, none⟩), .pointer (some b), .int .u64 150]]).run Tryd.prog W
      = .ok (.tuple #[]) (W.setCell ta (.pointer (some p))) := by
  rw [rls]
  simp only [Sem.run_bind, partsFa, partsFb, Result.andThen]
  simp [ReflectliteValue.flagAddr, loadVar, isAgg, underlying, Tryd.underlying151, hb, Result.andThen, directF, storeVar, Value.cells, storeCells, Addr.add]
  rw [run_store Tryd.prog W ta _ _ (by rfl)]
  simp [ht, hf]
theorem noAsF (v : Value) (xT : TypeId) (w : World) : (Instr.typeAssert (.iface 151 v) xT 174 true).run Tryd.prog w = .ok (.tuple #[.nilIface, .bool false]) w := run_typeAssert_lacksB Tryd.underlying174 (by kernel_rfl) (by kernel_rfl) v xT w
theorem unwrapF (v : Value) (xT : TypeId) (w : World) : (Instr.typeAssert (.iface 151 v) xT 177 true).run Tryd.prog w = .ok (.tuple #[.iface 151 v, .bool true]) w := run_typeAssert_hasB Tryd.underlying177 (by kernel_rfl) v xT w
theorem methodUnwrap (h : Value) (w : World) : (Go.method 311 151 h "Unwrap").run Tryd.prog w = .ok (130, h) w := by kernel_rfl
end ErrPath
open ErrPath
theorem unwrap_any (fb : Nat) (s : ByteArray) (p : Int) (inner : Value) (w : World) (h : Blk w fb 154 #[.string s, .int .i64 p, inner]) :
    Calls Tryd.prog 130 #[.pointer (some ⟨fb, 0, none⟩)] w fun e w' => e = .returned inner ∧ w = w' := by
  have h0 := h.cell 2
  simp at h0
  clear h
  go_enter Tryd.func130, Tryd.ntmps130
  go_wp2
  go_ret
  exact ⟨rfl, rfl⟩
set_option maxHeartbeats 4000000 in
/-- Into a code: it is told, however deep. -/
theorem as_in (c : Int) (q : PathS) (v : Value) (tb vb : Nat) (old : Value) (w : World) (B : Nat) (hv : ErrV w c q v) (ht : w.cell? ⟨tb, 0, none⟩ = some old) (hf : w.frozen? ⟨tb, 0, none⟩ = false) (hvb : w.cell? ⟨vb, 0, none⟩ = some (.pointer (some ⟨tb, 0, none⟩))) (hB : B ≤ tb) (hBs : B ≤ w.heap.size) :
    Calls Tryd.prog 103 #[v, .iface 134 (.pointer (some ⟨tb, 0, none⟩)), .agg #[.pointer (some ⟨1, 134, none⟩), .pointer (some ⟨vb, 0, none⟩), .int .u64 150], .iface 169 (.agg #[.pointer (some ⟨1, 29, none⟩)])] w fun e w' => e = .returned (.bool true) ∧ Below B w w' ∧ w'.cell? ⟨tb, 0, none⟩ = some (.int .i64 c) := by
  have h10 := @run_callFunc_extern Tryd.prog 107 _ ReflectliteType.typeOf Tryd.func107 (by kernel_rfl) (by kernel_rfl) (by kernel_rfl) (by kernel_rfl)
  have h35 := @run_callFunc_extern Tryd.prog 135 _ (ReflectliteType.relation "AssignableTo" ReflectliteType.assignableTo) Tryd.func135 (by kernel_rfl) (by kernel_rfl) (by kernel_rfl) (by kernel_rfl)
  have h11 := @run_callFunc_extern Tryd.prog 108 _ (ReflectliteValue.method (ReflectliteValue.valueError "reflectlite.Value.Elem" 0) ReflectliteValue.elem) Tryd.func108 (by kernel_rfl) (by kernel_rfl) (by kernel_rfl) (by kernel_rfl)
  have h12 := @run_callFunc_extern Tryd.prog 109 _ ReflectliteValue.set Tryd.func109 (by kernel_rfl) (by kernel_rfl) (by kernel_rfl) (by kernel_rfl)
  have h6 := @run_callFunc_extern Tryd.prog 100 _ (fun args => ReflectliteValue.unpack (args.getD 0 (.tuple #[]))) Tryd.func100 (by kernel_rfl) (by kernel_rfl) (by kernel_rfl) (by kernel_rfl)
  have mA := methodAssignableTo
  have mU := methodUnwrap
  have hvl : vb < w.heap.size := World.block_lt_of_cell? _ _ hvb
  have htl : tb < w.heap.size := World.block_lt_of_cell? _ _ ht
  obtain ⟨w1, hw1⟩ : ∃ w1, w1 = w.alloc (.cells #[.pointer (some ⟨1, 134, none⟩), .pointer (some ⟨vb, 0, none⟩), .int .u64 150] 158) := ⟨_, rfl⟩
  have hb1 : Below w.heap.size w w1 := by rw [hw1]; exact (Below.refl _ _).alloc (Nat.le_refl _) _
  have hv1 : ErrV w1 c q v := hv.below hb1
  have ht1 : w1.cell? ⟨tb, 0, none⟩ = some old := (hb1.cell (p := ⟨tb, 0, none⟩) htl).trans ht
  have hf1 : w1.frozen? ⟨tb, 0, none⟩ = false := (hb1.frozen (p := ⟨tb, 0, none⟩) htl).trans hf
  have hvb1 : w1.cell? ⟨vb, 0, none⟩ = some (.pointer (some ⟨tb, 0, none⟩)) := (hb1.cell (p := ⟨vb, 0, none⟩) hvl).trans hvb
  have hbox : Blk w1 w.heap.size 158 #[.pointer (some ⟨1, 134, none⟩), .pointer (some ⟨vb, 0, none⟩), .int .u64 150] := by rw [hw1]; exact Blk.new _ _ _
  have hz1 : w.heap.size < w1.heap.size := hbox.lt
  have el := elemVC ⟨vb, 0, none⟩ ⟨tb, 0, none⟩ w1 hvb1
  have st := setC ⟨tb, 0, none⟩ ⟨w1.heap.size, 0, none⟩ c old (w1.alloc (.cells #[.int .i64 c] 29)) (by simp) (by rw [World.cell?_alloc_lt _ _ ⟨tb, 0, none⟩ (by simp; omega)]; exact ht1) (by rw [World.frozen?_alloc_old _ _ ⟨tb, 0, none⟩ (by simp; omega)]; exact hf1)
  have b0 := hbox.cell 0
  have b1 := hbox.cell 1
  have b2 := hbox.cell 2
  simp at b0 b1 b2
  have KP := hid (And.intro hb1 (And.intro ht1 (And.intro hf1 (And.intro hbox hv1))))
  clear hv ht hf hvb hb1 hv1 ht1 hf1 hvb1 hbox
  go_enter Tryd.func103, Tryd.ntmps103
  go_wp2_with fail
  rw [← hw1]
  have HW := hid hw1
  clear hw1
  go_loopg [0] q.length (fun k ev wr => ∃ r : PathS, r.length = k ∧ ErrV w1 c r ev ∧ wr = w1)
  case atStart => exact ⟨q, rfl, KP.out.2.2.2.2, rfl⟩
  case round =>
    obtain ⟨r, hr, hev, rfl⟩ := hrel
    have HR := hid hr
    clear hr
    cases r with
    | nil =>
      obtain rfl := hev
      have tO := typeOfC
      have a25 := assignableCC
      have v25 := valueOfCode
      go_wp2
      go_ret
      refine ⟨rfl, ?_, ?_⟩
      · have hb := KP.out.1.mono hBs
        exact (hb.alloc (by omega) _).setCell hB _
      · exact World.cell?_setCell_same _ _ _ (by rw [World.cell?_alloc_lt _ _ ⟨tb, 0, none⟩ (by simp; omega)]; exact KP.out.2.1)
    | cons a r =>
      obtain ⟨s, p⟩ := a
      obtain ⟨fb, inner, rfl, hblk, hin⟩ := hev
      obtain ⟨ti, xi, hform⟩ := hin.form
      subst hform
      have HI := hid (And.intro hblk hin)
      clear hblk hin
      have tO := typeOfFv
      have a25 := assignableFC
      have u1 := noAsF
      have u2 := unwrapF
      go_wp2_with (go_at_call 130; refine (unwrap_any fb s p _ _ (by exact HI.out.1)).mono ?_; rintro e w' ⟨rfl, rfl⟩)
      have hr := HR.out
      go_roundg (gk - 1)
      case measure => simp at hr; omega
      case rel => exact ⟨r, by simp at hr; omega, HI.out.2, rfl⟩
end Go.Proofs.YtabklmkdneoaaaaDoor
