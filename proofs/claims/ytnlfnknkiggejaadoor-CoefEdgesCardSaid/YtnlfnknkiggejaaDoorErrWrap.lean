/- fault.In; kinref.In, kinref.Wrap. -/
import Derived.Test.YtnlfnknkiggejaaDoorErrPath5
namespace Go.Proofs.YtnlfnknkiggejaaDoor
open Go.RowKit

def ErrRes (c : Int) (q : PathS) (w : World) (e : Ending) (w' : World) : Prop := ∃ v', e = .returned v' ∧ ErrV w' c q v' ∧ Below w.heap.size w w'
theorem in_any (s : ByteArray) (p c : Int) (q : PathS) (v : Value) (w : World) (hv : ErrV w c q v) :
    Calls Tryd.prog 58 #[.string s, .int .i64 p, v] w (ErrRes c ((s, p) :: q) w) := by
  have hb : Below w.heap.size w (w.alloc (.cells #[.string s, .int .i64 p, v] 150)) := (Below.refl _ _).alloc (Nat.le_refl _) _
  have R : Hid (ErrV (w.alloc (.cells #[.string s, .int .i64 p, v] 150)) c ((s, p) :: q) (.iface 148 (.pointer (some ⟨w.heap.size, 0, none⟩)))) := ⟨_, v, rfl, Blk.new _ _ _, hv.below hb⟩
  have B := hid hb
  obtain ⟨tv, xv, hform⟩ := hv.form
  subst hform
  clear hv hb
  go_enter Tryd.func58, Tryd.ntmps58
  go_wp2_with fail
  go_ret
  exact ⟨_, rfl, R.out, B.out⟩
theorem steps_from {w : World} {v : Value} {q : PathS} (h : Steps w v q) : From w 2 v q.length (stepCells q) := by
  obtain ⟨A, c, rfl, hc⟩ := h
  refine ⟨A, c, rfl, stepCells_len q, fun h0 => ?_⟩
  obtain ⟨b, off, rfl, _, hcell⟩ := hc (by rintro rfl; exact h0 rfl)
  refine ⟨_, rfl, fun j u hu => ?_⟩
  have hj : j < q.length * 2 := by rw [← stepCells_len q]; exact (List.getElem?_eq_some_iff.1 hu).1
  have hi : j / 2 < q.length := by omega
  obtain ⟨h1, h2⟩ := stepCells_at q (j / 2) q[j / 2] (List.getElem?_eq_getElem hi)
  obtain ⟨h3, h4⟩ := hcell (j / 2) q[j / 2] (List.getElem?_eq_getElem hi)
  have hadd : ((⟨b, off, none⟩ : Addr).add j) = ⟨b, off + j, none⟩ := by unfold Addr.add; split <;> simp_all
  rw [hadd]
  rcases Nat.mod_two_eq_zero_or_one j with hm | hm
  · have e : j / 2 * 2 = j := by omega
    rw [e] at h1 h3
    rw [h1] at hu
    rw [h3]
    exact hu
  · have e : j / 2 * 2 + 1 = j := by omega
    rw [e] at h2
    rw [h2] at hu
    rw [show off + j = off + j / 2 * 2 + 1 by omega, h4]
    exact hu
def RefErr (c : Int) (q : PathS) (w : World) (e : Ending) (w' : World) : Prop := ∃ pv, e = .returned (.agg #[.int .i64 c, pv]) ∧ Steps w' pv q ∧ (∀ k, pv.ownBlock = some k → w.heap.size ≤ k) ∧ Below w.heap.size w w'
theorem one_steps (q : PathS) : ∀ u ∈ stepCells q, u.oneCell' = true := by
  intro u hu
  obtain ⟨a, _, ha⟩ := List.mem_flatMap.1 hu
  simp at ha
  rcases ha with rfl | rfl <;> rfl
theorem own_lit2 (w : World) (t : TypeId) (a b : Value) (B : Nat) (hB : B ≤ w.heap.size) : (w.alloc (.cells #[a, b] t)).ownsRow B t 2 (.slice (some ⟨w.heap.size, 0, none⟩) 1 1) 1 [a, b] :=
  ⟨rfl, .inr ⟨w.heap.size, 1, #[a, b], rfl, hB, heap_alloc_new w _, by omega, by unfold maxLen; omega, rfl, rfl⟩⟩
theorem Blk.newAt' {n : Nat} (w : World) (t : TypeId) (cs : Array Value) (hn : n = w.heap.size) : Blk (w.alloc (.cells cs t)) n t cs := by subst hn; exact Blk.new w t cs
theorem info_kstep : (Tryd.prog.info? 123).map (fun i => (i.zero, i.size, i.bytes)) = some (some (.agg #[.string ⟨#[]⟩, .int .i64 0]), 2, 24) := by kernel_rfl
set_option maxRecDepth 100000 in
set_option maxHeartbeats 1600000 in
theorem kin_any (s : ByteArray) (p c : Int) (q : PathS) (pv : Value) (w : World) (hp : Steps w pv q) (hc : c ≠ 0) (hq : q.length ≤ 1000) :
    Calls Tryd.prog 71 #[.string s, .int .i64 p, .agg #[.int .i64 c, pv]] w (RefErr c ((s, p) :: q) w) := by
  obtain ⟨i0, hi0, hz0, hz1, hz2⟩ := info_parts info_kstep
  have h1 : (c == 0) = false := by simpa using hc
  have P := hid hp
  clear hc hp
  go_enter Tryd.func71, Tryd.ntmps71
  go_wp2_with fail
  refine (err_ok _ _ _).mono ?_
  rintro e w2 ⟨rfl, hb2⟩
  have b0 := (hb2.cell (p := ⟨w.heap.size, 0, none⟩) (by simp; omega)).trans ((Blk.alloc (Blk.new w 38 #[.int .i64 c, pv]) (.cells #[.int .i64 0, .slice none 0 0] 38)).cell 0)
  have b1 := (hb2.cell (p := ⟨w.heap.size, 1, none⟩) (by simp; omega)).trans ((Blk.alloc (Blk.new w 38 #[.int .i64 c, pv]) (.cells #[.int .i64 0, .slice none 0 0] 38)).cell 1)
  simp at b0 b1
  have hz := hb2.size
  simp at hz
  have hs2 : w.heap.size < w2.heap.size := by omega
  have hs3 : w.heap.size + 1 < w2.heap.size := by omega
  have RB : Hid (Blk w2 (w.heap.size + 1) 38 #[.int .i64 0, .slice none 0 0]) := (Blk.newAt' (n := w.heap.size + 1) (w.alloc (.cells #[.int .i64 c, pv] 38)) 38 #[.int .i64 0, .slice none 0 0] (by simp)).below hb2 (by simp)
  have HB : Hid (Below w.heap.size w w2) := (((Below.refl _ _).alloc (Nat.le_refl _) _).alloc (by simp) _).trans (hb2.mono (by simp; omega))
  clear hb2
  go_wp2_with (first
    | (at_builtin
       refine wpList_append_form _ rfl (.tmp 19) (.tmp 21) _ rfl w.heap.size 123 i0 (.agg #[.string ⟨#[]⟩, .int .i64 0]) 2 24 Tryd.underlying36 hi0 hz0 hz1 hz2 rfl (by omega) (.slice (some ⟨w2.heap.size, 0, none⟩) 1 1) 1 [.string s, .int .i64 p] rfl (by exact (own_lit2 w2 _ _ _ _ HB.out.size).alloc _) pv q.length (stepCells q) rfl (by exact steps_from (P.out.below ((HB.out.alloc HB.out.size _).alloc (by have := HB.out.size; simp; omega) _))) (one_steps q) (.inl (by simp [Value.ownBlock])) (by unfold maxLen; omega) (by omega) (by have := HB.out.size; simp; omega) (q.length + 1) (stepCells ((s, p) :: q)) (by omega) rfl ?_
       intro g cap w3 hown hgrow hat hlt1
       have O1 : Blk w3 (w2.heap.size + 1) 38 #[.int .i64 c, .slice (some ⟨w2.heap.size, 0, none⟩) 1 1] :=
         (hgrow.block _ (by simp) (by simp [Value.ownBlock])).trans (Blk.newAt' (n := w2.heap.size + 1) (w2.alloc (.cells #[.string s, .int .i64 p] 123)) 38 #[.int .i64 c, .slice (some ⟨w2.heap.size, 0, none⟩) 1 1] (by simp))
       have R1 : Blk w3 (w.heap.size + 1) 38 #[.int .i64 0, .slice none 0 0] :=
         (hgrow.block _ (by simp; omega) (by simp [Value.ownBlock]; omega)).trans ((RB.out.alloc _).alloc _)
       have o0 := O1.cell 0
       have o1 := O1.cell 1
       have of1 := O1.frozen 1
       have r0 := R1.cell 0
       have r1 := R1.cell 1
       have rf0 := R1.frozen 0
       have rf1 := R1.frozen 1
       simp at o0 o1 r0 r1
       have H := hid (And.intro hown (And.intro hgrow (And.intro hat hlt1)))
       have RR := hid R1
       clear hown hgrow hat hlt1 O1 R1))
  have hg1 : g = w2.heap.size ∨ g = w2.heap.size + 1 + 1 := by
    rcases H.out.2.2.1 with h | h
    · simp [Value.ownBlock] at h; exact .inl h.symm
    · simp at h; exact .inr h
  have hOn : Only (fun k => k = w2.heap.size + 1 ∨ k = w.heap.size + 1) w3 (((w3.setCell ⟨w2.heap.size + 1, 1, none⟩ (.slice (some ⟨g, 0, none⟩) (q.length + 1) cap)).setCell ⟨w.heap.size + 1, 0, none⟩ (.int .i64 c)).setCell ⟨w.heap.size + 1, 1, none⟩ (.slice (some ⟨g, 0, none⟩) (q.length + 1) cap)) :=
    (((Only.refl _ w3).setCell (fun _ => .inl rfl) _).setCell (fun _ => .inr rfl) _).setCell (fun _ => .inr rfl) _
  have hown2 := own_keep2 H.out.1 hOn (fun k hk => by simp [Value.ownBlock] at hk; omega)
  have hbel : Below w.heap.size w w3 := ((HB.out.alloc HB.out.size (.cells #[.string s, .int .i64 p] 123)).alloc (by simp; omega) _).grown H.out.2.1 (by simp; omega) (fun k hk => by simp [Value.ownBlock] at hk; omega)
  refine bodyPost_ret (v := .agg #[.int .i64 c, .slice (some ⟨g, 0, none⟩) (q.length + 1) cap]) ?_ rfl ⟨_, rfl, steps_of_own hown2, fun k hk => by (simp [Value.ownBlock] at hk; omega), hbel.trans ⟨hOn.os, hOn.tape, hOn.output, hOn.size, fun k hk => hOn.block k (by have := hbel.size; omega) (by omega)⟩⟩
  have k1 := RR.out.far (p := ⟨w2.heap.size + 1, 1, none⟩) (by simp; omega) (.slice (some ⟨g, 0, none⟩) (q.length + 1) cap)
  have k2 := k1.put 0 (.int .i64 c)
  have k3 := k2.put 1 (.slice (some ⟨g, 0, none⟩) (q.length + 1) cap)
  have h0 := k2.cell 0
  have h1 := k3.cell 1
  simp at h0 h1
  simp [results, Tryd.results71, go_sem, h0, h1]
theorem kwrap_any (s : ByteArray) (p c : Int) (w : World) (hc : c ≠ 0) :
    Calls Tryd.prog 27 #[.string s, .int .i64 p, .int .i64 c] w (RefErr c [(s, p)] w) := by
  have HC := hid hc
  clear hc
  go_enter Tryd.func27, Tryd.ntmps27
  go_wp2_with fail
  refine (fail_any c _).mono ?_
  rintro e w2 ⟨rfl, hb2⟩
  have hs2 := hb2.size
  simp at hs2
  have R1 := (Blk.new w 38 #[.int .i64 0, .slice none 0 0]).below hb2 (by simp)
  have HB : Hid (Below w.heap.size w w2) := ((Below.refl _ _).alloc (Nat.le_refl _) _).trans (hb2.mono (by simp))
  have RR := hid R1
  clear hb2 R1
  go_wp2_with fail
  refine (kin_any s p c [] (.slice none 0 0) _ (Steps.nil _ 0) HC.out (by simp)).mono ?_
  rintro e w3 ⟨pv, rfl, hst, hfr, hb3⟩
  obtain ⟨A, cap, rfl, _⟩ := id hst
  have R2 := RR.out.below hb3 (by omega)
  have r0 := R2.cell 0
  have r1 := R2.cell 1
  have rf0 := R2.frozen 0
  have rf1 := R2.frozen 1
  simp at r0 r1
  have K := hid (And.intro hst (And.intro R2 (HB.out.trans (hb3.mono HB.out.size))))
  have KF : Hid (∀ k, (Value.slice A [(s, p)].length cap).ownBlock = some k → w.heap.size < k) := fun k hk => by have := hfr k hk; omega
  clear hst hb3 R2 hfr
  go_wp2_with fail
  have k2 := K.out.2.1.put 0 (.int .i64 c)
  have k3 := k2.put 1 (.slice A [(s, p)].length cap)
  have h0 := k2.cell 0
  have h1 := k3.cell 1
  simp at h0 h1
  have hOn : Only (fun k => k = w.heap.size) w3 ((w3.setCell ⟨w.heap.size, 0, none⟩ (.int .i64 c)).setCell ⟨w.heap.size, 1, none⟩ (.slice A [(s, p)].length cap)) := ((Only.refl (fun k => k = w.heap.size) w3).put (b := w.heap.size) rfl 0 _).put (b := w.heap.size) rfl 1 _
  refine bodyPost_ret (v := .agg #[.int .i64 c, .slice A [(s, p)].length cap]) ?_ rfl ⟨_, rfl, K.out.1.only hOn (fun k hk e => by have := KF.out k hk; omega), fun k hk => Nat.le_of_lt (KF.out k hk), K.out.2.2.trans ⟨hOn.os, hOn.tape, hOn.output, hOn.size, fun k hk => hOn.block k (by have := K.out.2.2.size; omega) (by omega)⟩⟩
  simp [results, Tryd.results27, go_sem, h0, h1]
end Go.Proofs.YtnlfnknkiggejaaDoor
