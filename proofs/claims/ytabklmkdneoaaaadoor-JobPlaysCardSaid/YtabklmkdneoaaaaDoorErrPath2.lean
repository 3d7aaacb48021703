/- errors.As, fault.Of, fault.Path at an error with a path: into a code, into a fault. -/
import Derived.Test.YtabklmkdneoaaaaDoorErrPath
import Derived.Test.YtabklmkdneoaaaaDoorCommon
import Derived.Deep.RegionHeld3
import Derived.Deep.DeepCutAuto
namespace Go.Proofs.YtabklmkdneoaaaaDoor
open Go.RowKit Go.Extern.Stop Go.Stop Go.Extern ErrAs ErrPath

set_option maxHeartbeats 4000000 in
theorem as_path (c : Int) (q : PathS) (v : Value) (tb : Nat) (old : Value) (w : World) (B : Nat) (hv : ErrV w c q v) (hg : ErrT w) (ht0 : w.cell? ⟨tb, 0, none⟩ = some old) (hf0 : w.frozen? ⟨tb, 0, none⟩ = false) (hB : B ≤ tb) (hBs : B ≤ w.heap.size) :
    Calls Tryd.prog 76 #[v, .iface 134 (.pointer (some ⟨tb, 0, none⟩))] w fun ev w' => ev = .returned (.bool true) ∧ Below B w w' ∧ w'.cell? ⟨tb, 0, none⟩ = some (.int .i64 c) := by
  obtain ⟨t, ht⟩ : ∃ t : Addr, t = ⟨tb, 0, none⟩ := ⟨_, rfl⟩
  rw [← ht] at ht0 hf0 ⊢
  have h6 := @run_callFunc_extern Tryd.prog 100 _ (fun args => ReflectliteValue.unpack (args.getD 0 (.tuple #[]))) Tryd.func100 (by kernel_rfl) (by kernel_rfl) (by kernel_rfl) (by kernel_rfl)
  have h7 := @run_callFunc_extern Tryd.prog 101 _ (ReflectliteValue.methodAny (ReflectliteValue.valueError "reflectlite.Value.Type" 0) (fun t _ _ _ => ReflectliteType.toType t)) Tryd.func101 (by kernel_rfl) (by kernel_rfl) (by kernel_rfl) (by kernel_rfl)
  have h8 := @run_callFunc_extern Tryd.prog 102 _ (ReflectliteValue.method (ReflectliteValue.valueError "reflectlite.Value.IsNil" 0) ReflectliteValue.isNil) Tryd.func102 (by kernel_rfl) (by kernel_rfl) (by kernel_rfl) (by kernel_rfl)
  have h27 := @run_callFunc_extern Tryd.prog 125 _ (ReflectliteType.abiMethod fun t => do pure (.int .u8 (← Rtype.kind t))) Tryd.func125 (by kernel_rfl) (by kernel_rfl) (by kernel_rfl) (by kernel_rfl)
  have h37 := @run_callFunc_extern Tryd.prog 137 _ (ReflectliteType.method ReflectliteType.elem) Tryd.func137 (by kernel_rfl) (by kernel_rfl) (by kernel_rfl) (by kernel_rfl)
  have h38 := @run_callFunc_extern Tryd.prog 138 _ (ReflectliteType.relation "Implements" ReflectliteType.implements_) Tryd.func138 (by kernel_rfl) (by kernel_rfl) (by kernel_rfl) (by kernel_rfl)
  have h10 := @run_callFunc_extern Tryd.prog 107 _ ReflectliteType.typeOf Tryd.func107 (by kernel_rfl) (by kernel_rfl) (by kernel_rfl) (by kernel_rfl)
  have h35 := @run_callFunc_extern Tryd.prog 135 _ (ReflectliteType.relation "AssignableTo" ReflectliteType.assignableTo) Tryd.func135 (by kernel_rfl) (by kernel_rfl) (by kernel_rfl) (by kernel_rfl)
  have h11 := @run_callFunc_extern Tryd.prog 108 _ (ReflectliteValue.method (ReflectliteValue.valueError "reflectlite.Value.Elem" 0) ReflectliteValue.elem) Tryd.func108 (by kernel_rfl) (by kernel_rfl) (by kernel_rfl) (by kernel_rfl)
  have h12 := @run_callFunc_extern Tryd.prog 109 _ ReflectliteValue.set Tryd.func109 (by kernel_rfl) (by kernel_rfl) (by kernel_rfl) (by kernel_rfl)
  have f6 := valueOfC
  have f7 := typeC
  have mK := methodKind
  have mE := methodElem
  have mI := methodImplements
  have k27 := kindC
  have k25 := kindEC
  have e27 := elemC
  have i25 := implementsC
  have n8 := isNilC ⟨w.heap.size, 0, none⟩ t ((w.alloc (.cells #[.pointer (some t)] 134)).alloc (.cells #[.pointer (some ⟨1, 134, none⟩), .pointer (some ⟨w.heap.size, 0, none⟩), .int .u64 150] 158)) (by simp)
  have hlt : 0 < w.heap.size := hg.lt
  have hg2 : ((w.alloc (.cells #[.pointer (some t)] 134)).alloc (.cells #[.pointer (some ⟨1, 134, none⟩), .pointer (some ⟨w.heap.size, 0, none⟩), .int .u64 150] 158)).cell? ⟨0, 0, none⟩ = some (.iface 169 (.agg #[.pointer (some ⟨1, 25, none⟩)])) := by
    rw [World.cell?_alloc_lt _ _ ⟨0, 0, none⟩ (by simp), World.cell?_alloc_lt _ _ ⟨0, 0, none⟩ hlt]; exact hg
  have htl : t.block < w.heap.size := by
    rcases Nat.lt_or_ge t.block w.heap.size with h | h
    · exact h
    · simp [World.cell?, Array.getElem?_eq_none h] at ht0
  have IN : Hid (Calls Tryd.prog 103 #[v, .iface 134 (.pointer (some t)), .agg #[.pointer (some ⟨1, 134, none⟩), .pointer (some ⟨w.heap.size, 0, none⟩), .int .u64 150], .iface 169 (.agg #[.pointer (some ⟨1, 29, none⟩)])] ((w.alloc (.cells #[.pointer (some t)] 134)).alloc (.cells #[.pointer (some ⟨1, 134, none⟩), .pointer (some ⟨w.heap.size, 0, none⟩), .int .u64 150] 158)) fun e w' => e = .returned (.bool true) ∧ Below B w w' ∧ w'.cell? t = some (.int .i64 c)) := by
    have hb0 : Below w.heap.size w ((w.alloc (.cells #[.pointer (some t)] 134)).alloc (.cells #[.pointer (some ⟨1, 134, none⟩), .pointer (some ⟨w.heap.size, 0, none⟩), .int .u64 150] 158)) := ((Below.refl _ _).alloc (Nat.le_refl _) _).alloc (by simp) _
    refine Calls.mono (?_ : Calls _ _ _ _ fun e w' => e = .returned (.bool true) ∧ Below B _ w' ∧ w'.cell? t = some (.int .i64 c)) (fun e w' h => ⟨h.1, (hb0.mono hBs).trans h.2.1, h.2.2⟩)
    have hb0' := hb0
    rw [ht] at hb0' ⊢
    refine as_in c q v tb w.heap.size old _ B (hv.below hb0') ?_ ?_ ?_ hB (by simp; omega)
    · rw [← ht, hb0.cell htl]; exact ht0
    · rw [← ht, hb0.frozen htl]; exact hf0
    · rw [World.cell?_alloc_lt _ _ ⟨w.heap.size, 0, none⟩ (by simp), ← ht]; simp
  obtain ⟨tv, xv, hform⟩ := hv.form
  subst hform
  have HT := hid ht
  clear hv ht ht0 hf0 hg
  go_enter Tryd.func76, Tryd.ntmps76
  go_wp2_with (go_at_call 103; refine IN.out.mono ?_; rintro e w' ⟨rfl, hbb, hcc⟩)
  go_ret
  exact ⟨rfl, hbb, hcc⟩
set_option maxHeartbeats 4000000 in
theorem as_hit0 (f t : Addr) (old : Value) (w : World) (hg : ErrT w) (ht0 : w.cell? t = some old) (hf0 : w.frozen? t = false) :
    Calls Tryd.prog 76 #[.iface 151 (.pointer (some f)), .iface 152 (.pointer (some t))] w fun ev w' => ev = .returned (.bool true) ∧ w' = ((((w.alloc (.cells #[.pointer (some t)] 152)).alloc (.cells #[.pointer (some ⟨1, 152, none⟩), .pointer (some ⟨w.heap.size, 0, none⟩), .int .u64 150] 158)).alloc (.cells #[.pointer (some ⟨1, 152, none⟩), .pointer (some ⟨w.heap.size, 0, none⟩), .int .u64 150] 158)).alloc (.cells #[.pointer (some f)] 151)).setCell t (.pointer (some f)) := by
  have h6 := @run_callFunc_extern Tryd.prog 100 _ (fun args => ReflectliteValue.unpack (args.getD 0 (.tuple #[]))) Tryd.func100 (by kernel_rfl) (by kernel_rfl) (by kernel_rfl) (by kernel_rfl)
  have h7 := @run_callFunc_extern Tryd.prog 101 _ (ReflectliteValue.methodAny (ReflectliteValue.valueError "reflectlite.Value.Type" 0) (fun t _ _ _ => ReflectliteType.toType t)) Tryd.func101 (by kernel_rfl) (by kernel_rfl) (by kernel_rfl) (by kernel_rfl)
  have h8 := @run_callFunc_extern Tryd.prog 102 _ (ReflectliteValue.method (ReflectliteValue.valueError "reflectlite.Value.IsNil" 0) ReflectliteValue.isNil) Tryd.func102 (by kernel_rfl) (by kernel_rfl) (by kernel_rfl) (by kernel_rfl)
  have h27 := @run_callFunc_extern Tryd.prog 125 _ (ReflectliteType.abiMethod fun t => do pure (.int .u8 (← Rtype.kind t))) Tryd.func125 (by kernel_rfl) (by kernel_rfl) (by kernel_rfl) (by kernel_rfl)
  have h37 := @run_callFunc_extern Tryd.prog 137 _ (ReflectliteType.method ReflectliteType.elem) Tryd.func137 (by kernel_rfl) (by kernel_rfl) (by kernel_rfl) (by kernel_rfl)
  have h38 := @run_callFunc_extern Tryd.prog 138 _ (ReflectliteType.relation "Implements" ReflectliteType.implements_) Tryd.func138 (by kernel_rfl) (by kernel_rfl) (by kernel_rfl) (by kernel_rfl)
  have h10 := @run_callFunc_extern Tryd.prog 107 _ ReflectliteType.typeOf Tryd.func107 (by kernel_rfl) (by kernel_rfl) (by kernel_rfl) (by kernel_rfl)
  have h35 := @run_callFunc_extern Tryd.prog 135 _ (ReflectliteType.relation "AssignableTo" ReflectliteType.assignableTo) Tryd.func135 (by kernel_rfl) (by kernel_rfl) (by kernel_rfl) (by kernel_rfl)
  have h11 := @run_callFunc_extern Tryd.prog 108 _ (ReflectliteValue.method (ReflectliteValue.valueError "reflectlite.Value.Elem" 0) ReflectliteValue.elem) Tryd.func108 (by kernel_rfl) (by kernel_rfl) (by kernel_rfl) (by kernel_rfl)
  have h12 := @run_callFunc_extern Tryd.prog 109 _ ReflectliteValue.set Tryd.func109 (by kernel_rfl) (by kernel_rfl) (by kernel_rfl) (by kernel_rfl)
  have tO := typeOfFv
  have mA := methodAssignableTo
  have f6 := valueOfF
  have f7 := typeF
  have mK := methodKind
  have mE := methodElem
  have mI := methodImplements
  have k27 := kindF
  have k25 := kindEF
  have e27 := elemF
  have i25 := implementsF
  have n8 := isNilF ⟨w.heap.size, 0, none⟩ t ((w.alloc (.cells #[.pointer (some t)] 152)).alloc (.cells #[.pointer (some ⟨1, 152, none⟩), .pointer (some ⟨w.heap.size, 0, none⟩), .int .u64 150] 158)) (by simp)
  have hlt : 0 < w.heap.size := hg.lt
  have hg2 : ((w.alloc (.cells #[.pointer (some t)] 152)).alloc (.cells #[.pointer (some ⟨1, 152, none⟩), .pointer (some ⟨w.heap.size, 0, none⟩), .int .u64 150] 158)).cell? ⟨0, 0, none⟩ = some (.iface 169 (.agg #[.pointer (some ⟨1, 25, none⟩)])) := by
    rw [World.cell?_alloc_lt _ _ ⟨0, 0, none⟩ (by simp), World.cell?_alloc_lt _ _ ⟨0, 0, none⟩ hlt]; exact hg
  have a25 := assignableFF
  have v25 := valueOfFv
  have htl : t.block < w.heap.size := by
    rcases Nat.lt_or_ge t.block w.heap.size with h | h
    · exact h
    · simp [World.cell?, Array.getElem?_eq_none h] at ht0
  have el := elemVF ⟨w.heap.size, 0, none⟩ t (((w.alloc (.cells #[.pointer (some t)] 152)).alloc (.cells #[.pointer (some ⟨1, 152, none⟩), .pointer (some ⟨w.heap.size, 0, none⟩), .int .u64 150] 158)).alloc (.cells #[.pointer (some ⟨1, 152, none⟩), .pointer (some ⟨w.heap.size, 0, none⟩), .int .u64 150] 158)) (by rw [World.cell?_alloc_lt _ _ ⟨w.heap.size, 0, none⟩ (by simp; omega)]; simp)
  have st := setF t ⟨w.heap.size + 1 + 1 + 1, 0, none⟩ f old ((((w.alloc (.cells #[.pointer (some t)] 152)).alloc (.cells #[.pointer (some ⟨1, 152, none⟩), .pointer (some ⟨w.heap.size, 0, none⟩), .int .u64 150] 158)).alloc (.cells #[.pointer (some ⟨1, 152, none⟩), .pointer (some ⟨w.heap.size, 0, none⟩), .int .u64 150] 158)).alloc (.cells #[.pointer (some f)] 151))
    (by rw [World.cell?_alloc_at _ _ _ _ (by simp)]; rfl)
    (by rw [World.cell?_alloc_lt _ _ t (by simp; omega), World.cell?_alloc_lt _ _ t (by simp; omega), World.cell?_alloc_lt _ _ t (by simp; omega), World.cell?_alloc_lt _ _ t htl]; exact ht0)
    (by rw [World.frozen?_alloc_old _ _ t (by simp; omega), World.frozen?_alloc_old _ _ t (by simp; omega), World.frozen?_alloc_old _ _ t (by simp; omega), World.frozen?_alloc_old _ _ t (Nat.ne_of_lt htl)]; exact hf0)
  go_enter Tryd.func76, Tryd.ntmps76
  go_wp2
  refine wp_loop_rounds 1 ?_
  rw [rounds_succ]
  go_wp2
  go_ret
  exact ⟨rfl, rfl⟩
theorem as_hit (fb tb : Nat) (old : Value) (w : World) (hg : ErrT w) (ht0 : w.cell? ⟨tb, 0, none⟩ = some old) (hf0 : w.frozen? ⟨tb, 0, none⟩ = false) :
    Calls Tryd.prog 76 #[.iface 151 (.pointer (some ⟨fb, 0, none⟩)), .iface 152 (.pointer (some ⟨tb, 0, none⟩))] w fun ev w' => ev = .returned (.bool true) ∧ Only (· = tb) w w' ∧ w'.cell? ⟨tb, 0, none⟩ = some (.pointer (some ⟨fb, 0, none⟩)) := by
  refine (as_hit0 _ _ old w hg ht0 hf0).mono ?_
  rintro e w' ⟨rfl, rfl⟩
  have htl : tb < w.heap.size := World.block_lt_of_cell? _ _ ht0
  have hold : ((((w.alloc (.cells #[.pointer (some ⟨tb, 0, none⟩)] 152)).alloc (.cells #[.pointer (some ⟨1, 152, none⟩), .pointer (some ⟨w.heap.size, 0, none⟩), .int .u64 150] 158)).alloc (.cells #[.pointer (some ⟨1, 152, none⟩), .pointer (some ⟨w.heap.size, 0, none⟩), .int .u64 150] 158)).alloc (.cells #[.pointer (some ⟨fb, 0, none⟩)] 151)).cell? ⟨tb, 0, none⟩ = some old := by
    rw [World.cell?_alloc_lt _ _ ⟨tb, 0, none⟩ (by simp; omega), World.cell?_alloc_lt _ _ ⟨tb, 0, none⟩ (by simp; omega), World.cell?_alloc_lt _ _ ⟨tb, 0, none⟩ (by simp; omega), World.cell?_alloc_lt _ _ ⟨tb, 0, none⟩ htl]
    exact ht0
  exact ⟨rfl, Only.setCell (S := (· = tb)) (p := ⟨tb, 0, none⟩) (((((Only.refl _ w).alloc _).alloc _).alloc _).alloc _) (fun _ => rfl) _, World.cell?_setCell_same _ _ _ hold⟩
theorem of_path (c : Int) (q : PathS) (v : Value) (w : World) (hv : ErrV w c q v) (hg : ErrT w) : Calls Tryd.prog 41 #[v] w fun e w' => e = .returned (.int .i64 c) ∧ Below w.heap.size w w' := by
  have hlt := hg.lt
  have hb0 : Below w.heap.size w (w.alloc (.cells #[.int .i64 0] 29)) := (Below.refl w.heap.size w).alloc (Nat.le_refl _) _
  have hg2 : ErrT (w.alloc (.cells #[.int .i64 0] 29)) := hg.below hb0 hlt
  have HG := hid (And.intro hg2 (hv.below hb0))
  obtain ⟨tv, xv, hform⟩ := hv.form
  subst hform
  clear hg hg2 hv hb0
  go_enter Tryd.func41, Tryd.ntmps41
  go_wp2_with fail
  refine (as_path c q _ w.heap.size (.int .i64 0) _ w.heap.size (by exact HG.out.2) HG.out.1 (by simp) (by simp) (Nat.le_refl _) (by simp)).mono ?_
  rintro e w' ⟨rfl, hb, hc⟩
  have B := hid hb
  clear hb
  go_wp2_with fail
  go_ret
  exact ⟨rfl, ((Below.refl w.heap.size w).alloc (Nat.le_refl _) _).trans B.out⟩
end Go.Proofs.YtabklmkdneoaaaaDoor
