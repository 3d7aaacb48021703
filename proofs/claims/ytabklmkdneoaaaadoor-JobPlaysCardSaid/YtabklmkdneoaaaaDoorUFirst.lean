/- The chapter's examples: kinlaw4's first. -/
import Derived.Test.YtabklmkdneoaaaaDoorUNextAny
import Derived.Test.YtabklmkdneoaaaaDoorErrPath5
import Derived.Lib.SlBytesConst
namespace Go.Proofs.YtabklmkdneoaaaaDoor
open Go.RowKit

theorem byt_litAt {n : Nat} (w : World) (L : List UInt8) (fz : Nat × Nat) (hn : n = w.heap.size) : Byt (w.alloc (.cells (L.map byteV).toArray 5 fz)) (.slice (some ⟨n, 0, none⟩) L.length L.length) L := by
  subst hn
  refine ⟨_, _, rfl, Nat.le_refl _, fun _ => ⟨w.heap.size, 0, rfl, by simp, fun j u hu => ?_⟩⟩
  have : (L.map byteV)[j]? = some (.int .u8 u.toNat) := by rw [List.getElem?_map, hu]; rfl
  rw [Nat.zero_add]
  have h := heap_alloc_new w (.cells (L.map byteV).toArray 5 fz)
  rw [cell_of_row _ _ _ _ _ fz h]
  simpa using this
theorem sum_example : sumOf [49, 50, 51, 52, 53, 54, 55, 56, 57] = 3421780262 := by decide +kernel
structure FX (w : World) (ub : Nat) (W : World) : Prop where
  et : ErrT W
  bel : Below w.heap.size w W
  u : Blk W ub 35 #[.int .i64 0, .slice none 0 0, .int .i64 0, .int .i64 1]
theorem FX.step {w W W' : World} {ub : Nat} (h : FX w ub W) (hb : Below W.heap.size W W') : FX w ub W' := ⟨h.et.below hb h.et.lt, h.bel.trans (hb.mono h.bel.size), h.u.below hb h.u.lt⟩
theorem FX.alloc {w W : World} {ub : Nat} (h : FX w ub W) (o : Obj) : FX w ub (W.alloc o) := h.step ((Below.refl _ _).alloc (Nat.le_refl _) o)
theorem FX.ucell {w W : World} {ub : Nat} (h : FX w ub W) : W.cell? ⟨ub, 3, none⟩ = some (.int .i64 1) := by simpa using h.u.cell 3
set_option maxRecDepth 100000 in
set_option maxHeartbeats 4000000 in
theorem ufirst_any (w : World) (hg : ErrT w) : Calls Tryd.prog 21 #[] w fun e w' => e = .returned (.bool true) ∧ Below w.heap.size w w' := by
  have HG := hid (And.intro hg hg.lt)
  clear hg
  have BL : Hid (∀ (n : Nat) (w : World) (L : List UInt8) (fz : Nat × Nat), n = w.heap.size → Byt (w.alloc (.cells (L.map byteV).toArray 5 fz)) (.slice (some ⟨n, 0, none⟩) L.length L.length) L) := fun n w L fz h => byt_litAt w L fz h
  have kc : ∀ (w : World) (g : Nat) (C : Array Value) (n c : Nat), g = w.heap.size → (convert 23 23 (.slice (some ⟨g, 0, none⟩) n c)).run Tryd.prog (w.alloc (.cells C 5)) = .ok (.slice (some ⟨g, 0, none⟩) n c) (w.alloc (.cells C 5 (C.size, C.size + 1))) := fun w g C n c h => by
    subst h
    exact Go.Lib.run_convert_bytes_const (P := Tryd.prog) w 23 5 C n c Tryd.underlying23 Tryd.underlying5
  go_enter Tryd.func21, Tryd.ntmps21
  go_wp2_with fail
  refine (next_fill _ [0, 1, 0] 0 _ (by exact BL.out _ w [0, 1, 0] (0, 0) rfl) (by simp) rfl (by simp)).mono ?_
  rintro e w1 ⟨rfl, hb⟩
  have B1 : Hid (Below w.heap.size w w1) := ((Below.refl _ _).alloc (Nat.le_refl _) _).trans (hb.mono (by simp))
  have X1 : Hid (FX w w1.heap.size (w1.alloc (.cells #[.int .i64 0, .slice none 0 0, .int .i64 0, .int .i64 1] 35))) := by
    have hb2 : Below w.heap.size w (w1.alloc (.cells #[.int .i64 0, .slice none 0 0, .int .i64 0, .int .i64 1] 35)) := B1.out.alloc B1.out.size _
    exact ⟨HG.out.1.below hb2 HG.out.2, hb2, Blk.new _ _ _⟩
  clear hb
  go_wp2_with fail
  refine (next_short _ [0, 1, 0] 1 1 _ (by exact BL.out _ _ [0, 1, 0] (0, 0) (by simp)) (by simp) rfl (by decide) (by simp)).mono ?_
  rintro e w2 ⟨fv, rfl, hfv, hb⟩
  have X2 := hid ((X1.out.alloc _).step hb)
  have FV := hid hfv
  clear hb hfv
  go_wp2_with fail
  refine (make_no 0 _ [120] _ (by exact BL.out _ _ [120] (1, 2) (by simp)) (by decide)).mono ?_
  rintro e w3 ⟨rfl, rfl⟩
  have X3 := hid ((X2.out.alloc (.cells #[.int .i64 0, .slice none 0 0, .int .i64 0, .int .i64 0] 35)).alloc (.cells #[.int .u8 120] 5 (1, 2)))
  have FV3 := hid ((FV.out.below ((Below.refl _ _).alloc (Nat.le_refl _) (.cells #[.int .i64 0, .slice none 0 0, .int .i64 0, .int .i64 0] 35))).below ((Below.refl _ _).alloc (Nat.le_refl _) (.cells #[.int .u8 120] 5 (1, 2))))
  have e13 : makeNo 0 ([120] : List UInt8).length = 13 := by decide
  rw [e13]
  clear e13
  go_wp2_with fail
  refine (usum_any _ [49, 50, 51, 52, 53, 54, 55, 56, 57] _ (by exact BL.out _ _ [49, 50, 51, 52, 53, 54, 55, 56, 57] (9, 10) (by simp)) (by simp)).mono ?_
  rintro e w4 ⟨rfl, rfl⟩
  rw [sum_example]
  have X4 := hid (X3.out.alloc (.cells #[.int .u8 49, .int .u8 50, .int .u8 51, .int .u8 52, .int .u8 53, .int .u8 54, .int .u8 55, .int .u8 56, .int .u8 57] 5 (9, 10)))
  have FV4 := hid (FV3.out.below ((Below.refl _ _).alloc (Nat.le_refl _) (.cells #[.int .u8 49, .int .u8 50, .int .u8 51, .int .u8 52, .int .u8 53, .int .u8 54, .int .u8 55, .int .u8 56, .int .u8 57] 5 (9, 10))))
  have uc := X4.out.ucell
  clear kc
  go_wp2_with fail
  refine (kwrap_any unitS ((1 : Nat) : Int) 1 _ (by omega)).mono ?_
  rintro e w5 ⟨pv, rfl, hst, _, hb⟩
  have X5 := hid (X4.out.step hb)
  have FV5 := hid (FV4.out.below hb)
  have ST := hid hst
  clear hb hst uc
  go_wp2_with fail
  refine (err_path 1 [(unitS, ((1 : Nat) : Int))] fv pv _ (by exact FV5.out) (by exact ST.out) (by exact X5.out.et) (by omega) (by simp)).mono ?_
  rintro e w6 ⟨rfl, hb⟩
  have X6 := hid (X5.out.step hb)
  clear hb
  go_wp2_with fail
  refine (fail_any 13 _).mono ?_
  rintro e w7 ⟨rfl, hb⟩
  have X7 := hid (X6.out.step hb)
  clear hb
  go_wp2_with fail
  refine (err_same 13 _ (by exact X7.out.et)).mono ?_
  rintro e w8 ⟨rfl, hb⟩
  have X8 := hid (X7.out.step hb)
  clear hb
  go_wp2_with fail
  refine (size_any 0 _ (by omega) (by omega)).mono ?_
  rintro e w9 ⟨rfl, rfl⟩
  go_wp2_with fail
  go_ret
  exact ⟨rfl, X8.out.bel⟩
end Go.Proofs.YtabklmkdneoaaaaDoor
