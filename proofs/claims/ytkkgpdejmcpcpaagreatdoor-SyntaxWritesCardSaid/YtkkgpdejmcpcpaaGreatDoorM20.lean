/- Parts: XErrWrap, XCoefQ. -/
import Derived.Test.YtkkgpdejmcpcpaaGreatDoorM19
import Derived.Test.YtkkgpdejmcpcpaaGreatDoorM16
import Derived.Test.YtkkgpdejmcpcpaaGreatDoorM18
/- fault.In; kinref.In, kinref.Wrap. -/
namespace Go.Proofs.YtkkgpdejmcpcpaaGreatDoor
open Go.RowKit

def ErrRes (c : Int) (q : PathS) (w : World) (e : Ending) (w' : World) : Prop := ∃ v', e = .returned v' ∧ ErrV w' c q v' ∧ Below w.heap.size w w'
theorem in_any (s : ByteArray) (p c : Int) (q : PathS) (v : Value) (w : World) (hv : ErrV w c q v) :
    Calls Tryz.prog 36 #[.string s, .int .i64 p, v] w (ErrRes c ((s, p) :: q) w) := by
  have hb : Below w.heap.size w (w.alloc (.cells #[.string s, .int .i64 p, v] 132)) := (Below.refl _ _).alloc (Nat.le_refl _) _
  have R : Hid (ErrV (w.alloc (.cells #[.string s, .int .i64 p, v] 132)) c ((s, p) :: q) (.iface 130 (.pointer (some ⟨w.heap.size, 0, none⟩)))) := ⟨_, v, rfl, Blk.new _ _ _, hv.below hb⟩
  have B := hid hb
  obtain ⟨tv, xv, hform⟩ := hv.form
  subst hform
  clear hv hb
  go_enter Tryz.func36, Tryz.ntmps36
  go_wp2_with fail
  go_ret
  exact ⟨_, rfl, R.out, B.out⟩
theorem steps_from {w : World} {v : Value} {q : PathS} (h : Steps w v q) : From w 2 v q.length (stepCells q) := by
  obtain ⟨A, c, rfl, hc⟩ := h
  refine ⟨A, c, rfl, stepCells_len q, fun h0 => ?_⟩
  obtain ⟨b, off, rfl, _, hcell⟩ := hc (by rintro rfl; exact h0 rfl)
  refine ⟨_, rfl, fun j u hu => ?_⟩
  have hj : j < q.length * 2 := by rw [← stepCells_len q]; exact (List.getElem?_eq_some_iff.1 hu).1
  have hi : j / 2 < q.length := by omega
  obtain ⟨h1, h2⟩ := stepCells_at q (j / 2) q[j / 2] (List.getElem?_eq_getElem hi)
  obtain ⟨h3, h4⟩ := hcell (j / 2) q[j / 2] (List.getElem?_eq_getElem hi)
  have hadd : ((⟨b, off, none⟩ : Addr).add j) = ⟨b, off + j, none⟩ := by unfold Addr.add; split <;> simp_all
  rw [hadd]
  rcases Nat.mod_two_eq_zero_or_one j with hm | hm
  · have e : j / 2 * 2 = j := by omega
    rw [e] at h1 h3
    rw [h1] at hu
    rw [h3]
    exact hu
  · have e : j / 2 * 2 + 1 = j := by omega
    rw [e] at h2
    rw [h2] at hu
    rw [show off + j = off + j / 2 * 2 + 1 by omega, h4]
    exact hu
def RefErr (c : Int) (q : PathS) (w : World) (e : Ending) (w' : World) : Prop := ∃ pv, e = .returned (.agg #[.int .i64 c, pv]) ∧ Steps w' pv q ∧ (∀ k, pv.ownBlock = some k → w.heap.size ≤ k) ∧ Below w.heap.size w w'
theorem one_steps (q : PathS) : ∀ u ∈ stepCells q, u.oneCell' = true := by
  intro u hu
  obtain ⟨a, _, ha⟩ := List.mem_flatMap.1 hu
  simp at ha
  rcases ha with rfl | rfl <;> rfl
theorem own_lit2 (w : World) (t : TypeId) (a b : Value) (B : Nat) (hB : B ≤ w.heap.size) : (w.alloc (.cells #[a, b] t)).ownsRow B t 2 (.slice (some ⟨w.heap.size, 0, none⟩) 1 1) 1 [a, b] :=
  ⟨rfl, .inr ⟨w.heap.size, 1, #[a, b], rfl, hB, heap_alloc_new w _, by omega, by unfold maxLen; omega, rfl, rfl⟩⟩
theorem Blk.newAt' {n : Nat} (w : World) (t : TypeId) (cs : Array Value) (hn : n = w.heap.size) : Blk (w.alloc (.cells cs t)) n t cs := by subst hn; exact Blk.new w t cs
theorem info_kstep : (Tryz.prog.info? 107).map (fun i => (i.zero, i.size, i.bytes)) = some (some (.agg #[.string ⟨#[]⟩, .int .i64 0]), 2, 24) := by kernel_rfl
set_option maxRecDepth 100000 in
set_option maxHeartbeats 1600000 in
theorem kin_any (s : ByteArray) (p c : Int) (q : PathS) (pv : Value) (w : World) (hp : Steps w pv q) (hc : c ≠ 0) (hq : q.length ≤ 1000) :
    Calls Tryz.prog 43 #[.string s, .int .i64 p, .agg #[.int .i64 c, pv]] w (RefErr c ((s, p) :: q) w) := by
  obtain ⟨i0, hi0, hz0, hz1, hz2⟩ := info_parts info_kstep
  have h1 : (c == 0) = false := by simpa using hc
  have P := hid hp
  clear hc hp
  go_enter Tryz.func43, Tryz.ntmps43
  go_wp2_with fail
  refine (err_ok _ _ _).mono ?_
  rintro e w2 ⟨rfl, hb2⟩
  have b0 := (hb2.cell (p := ⟨w.heap.size, 0, none⟩) (by simp; omega)).trans ((Blk.alloc (Blk.new w 46 #[.int .i64 c, pv]) (.cells #[.int .i64 0, .slice none 0 0] 46)).cell 0)
  have b1 := (hb2.cell (p := ⟨w.heap.size, 1, none⟩) (by simp; omega)).trans ((Blk.alloc (Blk.new w 46 #[.int .i64 c, pv]) (.cells #[.int .i64 0, .slice none 0 0] 46)).cell 1)
  simp at b0 b1
  have hz := hb2.size
  simp at hz
  have hs2 : w.heap.size < w2.heap.size := by omega
  have hs3 : w.heap.size + 1 < w2.heap.size := by omega
  have RB : Hid (Blk w2 (w.heap.size + 1) 46 #[.int .i64 0, .slice none 0 0]) := (Blk.newAt' (n := w.heap.size + 1) (w.alloc (.cells #[.int .i64 c, pv] 46)) 46 #[.int .i64 0, .slice none 0 0] (by simp)).below hb2 (by simp)
  have HB : Hid (Below w.heap.size w w2) := (((Below.refl _ _).alloc (Nat.le_refl _) _).alloc (by simp) _).trans (hb2.mono (by simp; omega))
  clear hb2
  go_wp2_with (first
    | (at_builtin
       refine wpList_append_form _ rfl (.tmp 19) (.tmp 21) _ rfl w.heap.size 107 i0 (.agg #[.string ⟨#[]⟩, .int .i64 0]) 2 24 Tryz.underlying44 hi0 hz0 hz1 hz2 rfl (by omega) (.slice (some ⟨w2.heap.size, 0, none⟩) 1 1) 1 [.string s, .int .i64 p] rfl (by exact (own_lit2 w2 _ _ _ _ HB.out.size).alloc _) pv q.length (stepCells q) rfl (by exact steps_from (P.out.below ((HB.out.alloc HB.out.size _).alloc (by have := HB.out.size; simp; omega) _))) (one_steps q) (.inl (by simp [Value.ownBlock])) (by unfold maxLen; omega) (by omega) (by have := HB.out.size; simp; omega) (q.length + 1) (stepCells ((s, p) :: q)) (by omega) rfl ?_
       intro g cap w3 hown hgrow hat hlt1
       have O1 : Blk w3 (w2.heap.size + 1) 46 #[.int .i64 c, .slice (some ⟨w2.heap.size, 0, none⟩) 1 1] :=
         (hgrow.block _ (by simp) (by simp [Value.ownBlock])).trans (Blk.newAt' (n := w2.heap.size + 1) (w2.alloc (.cells #[.string s, .int .i64 p] 107)) 46 #[.int .i64 c, .slice (some ⟨w2.heap.size, 0, none⟩) 1 1] (by simp))
       have R1 : Blk w3 (w.heap.size + 1) 46 #[.int .i64 0, .slice none 0 0] :=
         (hgrow.block _ (by simp; omega) (by simp [Value.ownBlock]; omega)).trans ((RB.out.alloc _).alloc _)
       have o0 := O1.cell 0
       have o1 := O1.cell 1
       have of1 := O1.frozen 1
       have r0 := R1.cell 0
       have r1 := R1.cell 1
       have rf0 := R1.frozen 0
       have rf1 := R1.frozen 1
       simp at o0 o1 r0 r1
       have H := hid (And.intro hown (And.intro hgrow (And.intro hat hlt1)))
       have RR := hid R1
       clear hown hgrow hat hlt1 O1 R1))
  have hg1 : g = w2.heap.size ∨ g = w2.heap.size + 1 + 1 := by
    rcases H.out.2.2.1 with h | h
    · simp [Value.ownBlock] at h; exact .inl h.symm
    · simp at h; exact .inr h
  have hOn : Only (fun k => k = w2.heap.size + 1 ∨ k = w.heap.size + 1) w3 (((w3.setCell ⟨w2.heap.size + 1, 1, none⟩ (.slice (some ⟨g, 0, none⟩) (q.length + 1) cap)).setCell ⟨w.heap.size + 1, 0, none⟩ (.int .i64 c)).setCell ⟨w.heap.size + 1, 1, none⟩ (.slice (some ⟨g, 0, none⟩) (q.length + 1) cap)) :=
    (((Only.refl _ w3).setCell (fun _ => .inl rfl) _).setCell (fun _ => .inr rfl) _).setCell (fun _ => .inr rfl) _
  have hown2 := own_keep2 H.out.1 hOn (fun k hk => by simp [Value.ownBlock] at hk; omega)
  have hbel : Below w.heap.size w w3 := ((HB.out.alloc HB.out.size (.cells #[.string s, .int .i64 p] 107)).alloc (by simp; omega) _).grown H.out.2.1 (by simp; omega) (fun k hk => by simp [Value.ownBlock] at hk; omega)
  refine bodyPost_ret (v := .agg #[.int .i64 c, .slice (some ⟨g, 0, none⟩) (q.length + 1) cap]) ?_ rfl ⟨_, rfl, steps_of_own hown2, fun k hk => by (simp [Value.ownBlock] at hk; omega), hbel.trans ⟨hOn.os, hOn.tape, hOn.output, hOn.size, fun k hk => hOn.block k (by have := hbel.size; omega) (by omega)⟩⟩
  have k1 := RR.out.far (p := ⟨w2.heap.size + 1, 1, none⟩) (by simp; omega) (.slice (some ⟨g, 0, none⟩) (q.length + 1) cap)
  have k2 := k1.put 0 (.int .i64 c)
  have k3 := k2.put 1 (.slice (some ⟨g, 0, none⟩) (q.length + 1) cap)
  have h0 := k2.cell 0
  have h1 := k3.cell 1
  simp at h0 h1
  simp [results, Tryz.results43, go_sem, h0, h1]
theorem kwrap_any (s : ByteArray) (p c : Int) (w : World) (hc : c ≠ 0) :
    Calls Tryz.prog 71 #[.string s, .int .i64 p, .int .i64 c] w (RefErr c [(s, p)] w) := by
  have HC := hid hc
  clear hc
  go_enter Tryz.func71, Tryz.ntmps71
  go_wp2_with fail
  refine (fail_any c _).mono ?_
  rintro e w2 ⟨rfl, hb2⟩
  have hs2 := hb2.size
  simp at hs2
  have R1 := (Blk.new w 46 #[.int .i64 0, .slice none 0 0]).below hb2 (by simp)
  have HB : Hid (Below w.heap.size w w2) := ((Below.refl _ _).alloc (Nat.le_refl _) _).trans (hb2.mono (by simp))
  have RR := hid R1
  clear hb2 R1
  go_wp2_with fail
  refine (kin_any s p c [] (.slice none 0 0) _ (Steps.nil _ 0) HC.out (by simp)).mono ?_
  rintro e w3 ⟨pv, rfl, hst, hfr, hb3⟩
  obtain ⟨A, cap, rfl, _⟩ := id hst
  have R2 := RR.out.below hb3 (by omega)
  have r0 := R2.cell 0
  have r1 := R2.cell 1
  have rf0 := R2.frozen 0
  have rf1 := R2.frozen 1
  simp at r0 r1
  have K := hid (And.intro hst (And.intro R2 (HB.out.trans (hb3.mono HB.out.size))))
  have KF : Hid (∀ k, (Value.slice A [(s, p)].length cap).ownBlock = some k → w.heap.size < k) := fun k hk => by have := hfr k hk; omega
  clear hst hb3 R2 hfr
  go_wp2_with fail
  have k2 := K.out.2.1.put 0 (.int .i64 c)
  have k3 := k2.put 1 (.slice A [(s, p)].length cap)
  have h0 := k2.cell 0
  have h1 := k3.cell 1
  simp at h0 h1
  have hOn : Only (fun k => k = w.heap.size) w3 ((w3.setCell ⟨w.heap.size, 0, none⟩ (.int .i64 c)).setCell ⟨w.heap.size, 1, none⟩ (.slice A [(s, p)].length cap)) := ((Only.refl (fun k => k = w.heap.size) w3).put (b := w.heap.size) rfl 0 _).put (b := w.heap.size) rfl 1 _
  refine bodyPost_ret (v := .agg #[.int .i64 c, .slice A [(s, p)].length cap]) ?_ rfl ⟨_, rfl, K.out.1.only hOn (fun k hk e => by have := KF.out k hk; omega), fun k hk => Nat.le_of_lt (KF.out k hk), K.out.2.2.trans ⟨hOn.os, hOn.tape, hOn.output, hOn.size, fun k hk => hOn.block k (by have := K.out.2.2.size; omega) (by omega)⟩⟩
  simp [results, Tryz.results71, go_sem, h0, h1]
end Go.Proofs.YtkkgpdejmcpcpaaGreatDoor

/- Chapter 14: what the walks of a square hold; a square's steps, plain. -/
namespace Go.Proofs.YtkkgpdejmcpcpaaGreatDoor
open Go.RowKit

theorem Nums.keepO {W W' : World} {x : Value} {l : List Int} {S : Nat → Prop} (h : Nums W x l) (ho : Only S W W') (hx : ∀ k, x.ownBlock = some k → ¬ S k) : Nums W' x l := by
  obtain ⟨A, c, rfl, h2, h3⟩ := h
  refine ⟨A, c, rfl, h2, fun h0 => ?_⟩
  obtain ⟨b, off, rfl, h5, h6⟩ := h3 h0
  exact ⟨b, off, rfl, Nat.lt_of_lt_of_le h5 ho.size, fun j u hu => (World.cell?_of_block (w := W) (a := ⟨b, off + j, none⟩) (ho.block b h5 (hx b rfl))).trans (h6 j u hu)⟩
section
variable {σ : Type} {M : Mach σ} {fB fF : FuncId} {me : Value} {At : World → (Nat → Prop) → σ → Prop} {Ok : σ → Nat → Prop}
/-- The coder's blocks and what the call has come to. -/
structure CW (At : World → (Nat → Prop) → σ → Prop) (w0 : World) (F0 : Nat → Prop) (s : σ) (W : World) (F : Nat → Prop) : Prop where
  a : At W F s
  o : Only F0 w0 W
  f : ∀ k, F k → F0 k ∨ w0.heap.size ≤ k
/-- A slice that reads as numbers, away from the coder. -/
structure NOff (x : Value) (l : List Int) (W : World) (F : Nat → Prop) : Prop where
  n : Nums W x l
  f : ∀ k, x.ownBlock = some k → ¬ F k
  b : ∀ k, x.ownBlock = some k → k < W.heap.size
/-- A block of numbers of one's own, away from the coder. -/
structure BOff (w0 : World) (g : Nat) (l : List Int) (W : World) (F : Nat → Prop) : Prop where
  b : Blk W g 3 (l.map intV).toArray
  f : ¬ F g
  lo : w0.heap.size ≤ g
variable {w0 W W' : World} {F0 F F' : Nat → Prop} {s s' : σ} {x : Value} {l : List Int} {g : Nat}
theorem CW.start (h : At w0 F s) : CW At w0 F s w0 F := ⟨h, Only.refl _ _, fun _ h => .inl h⟩
theorem only_join (o : Only F0 w0 W) (f : ∀ k, F k → F0 k ∨ w0.heap.size ≤ k) (o' : Only F W W') : Only F0 w0 W' := by
  refine ⟨o'.os.trans o.os, o'.tape.trans o.tape, o'.output.trans o.output, Nat.le_trans o.size o'.size, fun k hk hn => ?_⟩
  have : ¬ F k := by
    intro h
    rcases f k h with h | h
    · exact hn h
    · omega
  exact (o'.block k (by have := o.size; omega) this).trans (o.block k hk hn)
theorem CW.moved (h : CW At w0 F0 s W F) (a : At W' F' s') (o : Only F W W') (f : ∀ k, F' k → F k ∨ W.heap.size ≤ k) : CW At w0 F0 s' W' F' :=
  ⟨a, only_join h.o h.f o, fun k hk => by
    rcases f k hk with h1 | h1
    · exact h.f k h1
    · have := h.o.size; exact .inr (by omega)⟩
theorem CW.below (H : IsCoder M fB fF me At Ok) (h : CW At w0 F0 s W F) (hb : Below W.heap.size W W') : CW At w0 F0 s W' F :=
  ⟨H.keep _ _ F (fun _ => False) s h.a (Only.of_below hb) (fun _ _ h => h), ⟨hb.os.trans h.o.os, hb.tape.trans h.o.tape, hb.output.trans h.o.output, Nat.le_trans h.o.size hb.size, fun k hk hn => (hb.block k (by have := h.o.size; omega)).trans (h.o.block k hk hn)⟩, h.f⟩
theorem NOff.moved (h : NOff x l W F) (o : Only F W W') (f : ∀ k, F' k → F k ∨ W.heap.size ≤ k) : NOff x l W' F' :=
  ⟨h.n.keepO o h.f, fun k hk hF => by
    rcases f k hF with h1 | h1
    · exact h.f k hk h1
    · have := h.b k hk; omega, fun k hk => Nat.lt_of_lt_of_le (h.b k hk) o.size⟩
theorem NOff.below (h : NOff x l W F) (hb : Below W.heap.size W W') : NOff x l W' F := ⟨h.n.below hb, h.f, fun k hk => Nat.lt_of_lt_of_le (h.b k hk) hb.size⟩
theorem BOff.moved (h : BOff w0 g l W F) (o : Only F W W') (f : ∀ k, F' k → F k ∨ W.heap.size ≤ k) : BOff w0 g l W' F' :=
  ⟨h.b.keep o h.f, fun hF => by
    rcases f g hF with h1 | h1
    · exact h.f h1
    · have := h.b.lt; omega, h.lo⟩
theorem BOff.below (h : BOff w0 g l W F) (hb : Below W.heap.size W W') : BOff w0 g l W' F := ⟨h.b.below hb h.b.lt, h.f, h.lo⟩
/-- A number is written. -/
theorem BOff.put (h : BOff w0 g l W F) (a : Nat) (v : Int) : BOff w0 g (l.set a v) (W.setCell ⟨g, a, none⟩ (.int .i64 v)) F := by
  refine ⟨?_, h.f, h.lo⟩
  have := h.b.put a (.int .i64 v)
  have e : (l.map intV).toArray.setIfInBounds a (.int .i64 v) = ((l.set a v).map intV).toArray := by
    rw [List.setIfInBounds_toArray, List.map_set]
    rfl
  rw [e] at this
  exact this
theorem CW.put (H : IsCoder M fB fF me At Ok) (h : CW At w0 F0 s W F) (hg : ¬ F g) (lo : w0.heap.size ≤ g) (a : Nat) (v : Value) : CW At w0 F0 s (W.setCell ⟨g, a, none⟩ v) F := by
  have o : Only (fun k => k = g) W (W.setCell ⟨g, a, none⟩ v) := Only.put (S := fun k => k = g) (Only.refl _ _) rfl a v
  refine ⟨H.keep _ _ F _ s h.a o (fun k hk e => hg (by rw [← e]; exact hk)), ?_, h.f⟩
  exact ⟨o.os.trans h.o.os, o.tape.trans h.o.tape, o.output.trans h.o.output, Nat.le_trans h.o.size o.size, fun k hk hn => (o.block k (by have := h.o.size; omega) (by omega)).trans (h.o.block k hk hn)⟩
theorem NOff.put (h : NOff x l W F) (hg : ∀ k, x.ownBlock = some k → k ≠ g) (a : Nat) (v : Value) : NOff x l (W.setCell ⟨g, a, none⟩ v) F := by
  have o : Only (fun k => k = g) W (W.setCell ⟨g, a, none⟩ v) := Only.put (S := fun k => k = g) (Only.refl _ _) rfl a v
  exact ⟨h.n.keepO o hg, h.f, fun k hk => Nat.lt_of_lt_of_le (h.b k hk) o.size⟩
/-- The three together: the levels, the order, the square that is told. -/
structure Sq (At : World → (Nat → Prop) → σ → Prop) (w0 : World) (F0 : Nat → Prop) (x : Value) (l : List Int) (ov : Value) (ord : List Nat) (g : Nat) (out : List Int) (s : σ) (W : World) (F : Nat → Prop) : Prop where
  cw : CW At w0 F0 s W F
  xo : NOff x l W F
  oo : NOff ov (ord.map fun n : Nat => (n : Int)) W F
  go : BOff w0 g out W F
  xg : ∀ k, x.ownBlock = some k → k ≠ g
  og : ∀ k, ov.ownBlock = some k → k ≠ g
variable {ov : Value} {ord : List Nat} {out : List Int}
theorem Sq.moved (h : Sq At w0 F0 x l ov ord g out s W F) (hm : Moved At W F s' W') : ∃ F', Sq At w0 F0 x l ov ord g out s' W' F' := by
  obtain ⟨F', a, o, f⟩ := hm
  exact ⟨F', h.cw.moved a o f, h.xo.moved o f, h.oo.moved o f, h.go.moved o f, h.xg, h.og⟩
theorem Sq.below (H : IsCoder M fB fF me At Ok) (h : Sq At w0 F0 x l ov ord g out s W F) (hb : Below W.heap.size W W') : Sq At w0 F0 x l ov ord g out s W' F :=
  ⟨h.cw.below H hb, h.xo.below hb, h.oo.below hb, h.go.below hb, h.xg, h.og⟩
theorem Sq.put (H : IsCoder M fB fF me At Ok) (h : Sq At w0 F0 x l ov ord g out s W F) (a : Nat) (v : Int) : Sq At w0 F0 x l ov ord g (out.set a v) s (W.setCell ⟨g, a, none⟩ (.int .i64 v)) F :=
  ⟨h.cw.put H h.go.f h.go.lo a _, h.xo.put h.xg a _, h.oo.put h.og a _, h.go.put a v, h.xg, h.og⟩
theorem made_int (m : Nat) : madeCells #[.int .i64 0] m = ((zerosL m).map intV).toArray := by
  have h := toList_madeCells_one (.int .i64 0) m
  have e : (zerosL m).map intV = List.replicate m (.int .i64 0) := by unfold zerosL; rw [List.map_replicate]; rfl
  rw [e, ← h]
theorem run_make_int (m : Nat) (hm : m ≤ 1000000) (W : World) : (Instr.makeSlice 33 (.int .i64 (m : Int)) (.int .i64 (m : Int))).run Tryz.prog W = .ok (.slice (some ⟨W.heap.size, 0, none⟩) m m) (W.alloc (.cells ((zerosL m).map intV).toArray 3)) := by
  obtain ⟨i0, hi0, hz0, hz1, hz2⟩ := info_parts info_int1
  have h := run_make (P := Tryz.prog) W 33 3 i0 (.int .i64 0) Tryz.underlying33 hi0 hz0 .i64 .i64 (m : Int) (m : Int) (by omega) (by omega) (by rw [hz2]; omega) (by omega)
  rw [hz1] at h
  simp only [Int.toNat_natCast, Nat.mul_one] at h
  rw [← made_int]
  exact h
theorem natV_intV (l : List Nat) : l.map natV = (l.map fun n : Nat => (n : Int)).map intV := by rw [List.map_map]; rfl
/-- The order is told, the square is made. -/
theorem Sq.start (H : IsCoder M fB fF me At Ok) (n : Nat) (hs : At w0 F s) (hx : NOff x l w0 F) (ho : W.ownsRow w0.heap.size 3 1 ov ord.length (ord.map natV)) (hb : Below w0.heap.size w0 W) :
    Sq At w0 F x l ov ord W.heap.size (zerosL n) s (W.alloc (.cells ((zerosL n).map intV).toArray 3)) F := by
  have hal : Below W.heap.size W (W.alloc (.cells ((zerosL n).map intV).toArray 3)) := (Below.refl _ _).alloc (Nat.le_refl _) _
  have hz := hb.size
  have ht : ∀ k, F k → k < w0.heap.size := fun k hk => H.there _ _ _ _ hs hk
  have hno : NOff ov (ord.map fun n : Nat => (n : Int)) W F := by
    refine ⟨Nums.of_own (base := w0.heap.size) (t := 3) (n := ord.length) (by rw [← natV_intV]; exact ho) (by simp), fun k hk hF => ?_, fun k hk => (ho.lt k hk).2⟩
    have := (ho.lt k hk).1
    have := ht k hF
    omega
  refine ⟨((CW.start hs).below H hb).below H hal, (hx.below hb).below hal, hno.below hal, ⟨Blk.new _ _ _, fun hF => ?_, hz⟩, fun k hk e => ?_, fun k hk e => ?_⟩
  · have := ht _ hF; omega
  · have := hx.b k hk; omega
  · have := (ho.lt k hk).2; omega
/-- What is answered: the square told, or that a level is out of bounds. -/
def SqAns (w0 : World) (r : SqR) (F : Nat → Prop) (e : Ending) (w' : World) : Prop :=
  match r.1 with
  | none => ∃ g, e = .returned (.tuple #[.slice (some ⟨g, 0, none⟩) r.2.length r.2.length, .nilIface]) ∧ BOff w0 g r.2 w' F
  | some i => ∃ ev, e = .returned (.tuple #[.slice none 0 0, ev]) ∧ ErrV w' 3 [(⟨#[99, 111, 101, 102]⟩, (i : Int))] ev
theorem SqAns.told {w0 w' : World} {out : List Int} {F : Nat → Prop} {g n : Nat} {e : Ending} (he : e = .returned (.tuple #[.slice (some ⟨g, 0, none⟩) n n, .nilIface])) (hn : out.length = n) (hb : BOff w0 g out w' F) : SqAns w0 (none, out) F e w' := ⟨g, by subst hn; exact he, hb⟩
theorem SqAns.bad {w0 w' : World} {F : Nat → Prop} {i : Nat} {ev : Value} {e : Ending} (he : e = .returned (.tuple #[.slice none 0 0, ev])) (hv : ErrV w' 3 [(⟨#[99, 111, 101, 102]⟩, (i : Int))] ev) : SqAns w0 (some i, []) F e w' := ⟨ev, he, hv⟩
def CodeRes (M : Mach σ) (At : World → (Nat → Prop) → σ → Prop) (w0 : World) (F0 : Nat → Prop) (p : Ask SqR) (s : σ) (e : Ending) (w' : World) : Prop :=
  ∃ F, CW At w0 F0 (M.run p s).2 w' F ∧ SqAns w0 (M.run p s).1 F e w'
/-! ### A square's steps -/
theorem drop_ord {ord : List Nat} {i a : Nat} (h : ord[i]? = some a) : ord.drop i = a :: ord.drop (i + 1) := by
  have hi := (List.getElem?_eq_some_iff.1 h).1
  rw [List.drop_eq_getElem_cons hi]
  congr 1
  exact (List.getElem?_eq_some_iff.1 h).2
/-- Where the level is told. -/
def lvA (base last : Nat) (l : List Int) (a : Nat) (i : Nat) (t : Bool) (k : List Int → Ask SqR) (out : List Int) : Ask SqR :=
  (levelA base (l.getD a 0)).bind fun x => if lvOut x then .ret (some i, []) else askIf (decide (i < last)) (base + 9 + min i 7) t false fun e => if e then .ret (none, out.set a x) else k (out.set a x)
def leftN (l : List Int) (a : Nat) (left : Int) : Int := if l.getD a 0 ≠ 0 then left - 1 else left
theorem bne_dec (v : Int) : (v != 0) = decide (v ≠ 0) := by by_cases h : v = 0 <;> simp [h]
theorem askIf_pos {α : Type} {p u d : Bool} {c : Nat} {k : Bool → Ask α} (h : p = true) : askIf p c u d k = .bit c u k := by subst h; rfl
theorem askIf_neg {α : Type} {p u d : Bool} {c : Nat} {k : Bool → Ask α} (h : p = false) : askIf p c u d k = k d := by subst h; rfl
theorem sq_in {base last : Nat} {l : List Int} {a : Nat} {r : List Nat} {i : Nat} {left : Int} {out : List Int} {s : σ} (hi : i < last) :
    M.run (sqA base last l (a :: r) i left out) s = M.run (if (M.bit s (base + 1 + min i 7) (decide (l.getD a 0 ≠ 0))).1 then lvA base last l a i (decide (leftN l a left = 0)) (fun o => sqA base last l r (i + 1) (leftN l a left) o) out else sqA base last l r (i + 1) left out) (M.bit s (base + 1 + min i 7) (decide (l.getD a 0 ≠ 0))).2 := by
  have e : sqA base last l (a :: r) i left out = askIf (decide (i < last)) (base + 1 + min i 7) (decide (l.getD a 0 ≠ 0)) true (fun b => if b then lvA base last l a i (decide (leftN l a left = 0)) (fun o => sqA base last l r (i + 1) (leftN l a left) o) out else sqA base last l r (i + 1) left out) := rfl
  rw [e, askIf_pos (decide_eq_true hi)]
  rfl
theorem sq_last {base last : Nat} {l : List Int} {a : Nat} {r : List Nat} {i : Nat} {left : Int} {out : List Int} {s : σ} (hi : ¬ i < last) :
    M.run (sqA base last l (a :: r) i left out) s = M.run (lvA base last l a i (decide (leftN l a left = 0)) (fun o => sqA base last l r (i + 1) (leftN l a left) o) out) s := by
  have e : sqA base last l (a :: r) i left out = askIf (decide (i < last)) (base + 1 + min i 7) (decide (l.getD a 0 ≠ 0)) true (fun b => if b then lvA base last l a i (decide (leftN l a left = 0)) (fun o => sqA base last l r (i + 1) (leftN l a left) o) out else sqA base last l r (i + 1) left out) := rfl
  rw [e, askIf_neg (decide_eq_false hi)]
  rfl
theorem rsq_in {base last : Nat} {l : List Int} {a : Nat} {r : List Nat} {i : Nat} {out : List Int} {s : σ} (hi : i < last) :
    M.run (rsqA base last l (a :: r) i out) s = M.run (if (M.bit s (base + 1 + min i 7) (decide (l.getD a 0 ≠ 0))).1 then lvA base last l a i (restZ l r) (fun o => rsqA base last l r (i + 1) o) out else rsqA base last l r (i + 1) out) (M.bit s (base + 1 + min i 7) (decide (l.getD a 0 ≠ 0))).2 := by
  have e : rsqA base last l (a :: r) i out = askIf (decide (i < last)) (base + 1 + min i 7) (decide (l.getD a 0 ≠ 0)) true (fun b => if b then lvA base last l a i (restZ l r) (fun o => rsqA base last l r (i + 1) o) out else rsqA base last l r (i + 1) out) := rfl
  rw [e, askIf_pos (decide_eq_true hi)]
  rfl
theorem rsq_last {base last : Nat} {l : List Int} {a : Nat} {r : List Nat} {i : Nat} {out : List Int} {s : σ} (hi : ¬ i < last) :
    M.run (rsqA base last l (a :: r) i out) s = M.run (lvA base last l a i (restZ l r) (fun o => rsqA base last l r (i + 1) o) out) s := by
  have e : rsqA base last l (a :: r) i out = askIf (decide (i < last)) (base + 1 + min i 7) (decide (l.getD a 0 ≠ 0)) true (fun b => if b then lvA base last l a i (restZ l r) (fun o => rsqA base last l r (i + 1) o) out else rsqA base last l r (i + 1) out) := rfl
  rw [e, askIf_neg (decide_eq_false hi)]
  rfl
theorem lv_out {base last : Nat} {l : List Int} {a : Nat} {i : Nat} {t : Bool} {k : List Int → Ask SqR} {out : List Int} {s : σ} {x : Int} {s2 : σ} (h : M.run (levelA base (l.getD a 0)) s = (x, s2)) (ho : lvOut x = true) : M.run (lvA base last l a i t k out) s = ((some i, []), s2) := by
  unfold lvA
  rw [run_bind, h]
  dsimp only
  rw [if_pos ho]
  rfl
theorem lv_in {base last : Nat} {l : List Int} {a : Nat} {i : Nat} {t : Bool} {k : List Int → Ask SqR} {out : List Int} {s : σ} {x : Int} {s2 : σ} (h : M.run (levelA base (l.getD a 0)) s = (x, s2)) (ho : lvOut x = false) (hi : i < last) : M.run (lvA base last l a i t k out) s = if (M.bit s2 (base + 9 + min i 7) t).1 then ((none, out.set a x), (M.bit s2 (base + 9 + min i 7) t).2) else M.run (k (out.set a x)) (M.bit s2 (base + 9 + min i 7) t).2 := by
  unfold lvA
  rw [run_bind, h]
  dsimp only
  rw [if_neg (by rw [ho]; decide), askIf_pos (decide_eq_true hi), run_bit]
  cases (M.bit s2 (base + 9 + min i 7) t).1 <;> rfl
theorem lv_last {base last : Nat} {l : List Int} {a : Nat} {i : Nat} {t : Bool} {k : List Int → Ask SqR} {out : List Int} {s : σ} {x : Int} {s2 : σ} (h : M.run (levelA base (l.getD a 0)) s = (x, s2)) (ho : lvOut x = false) (hi : ¬ i < last) : M.run (lvA base last l a i t k out) s = M.run (k (out.set a x)) s2 := by
  unfold lvA
  rw [run_bind, h]
  dsimp only
  rw [if_neg (by rw [ho]; decide), askIf_neg (decide_eq_false hi)]
  rfl
theorem count_take {l : List Int} {i : Nat} {v : Int} (h : l[i]? = some v) : countL (l.take (i + 1)) = countL (l.take i) + if v ≠ 0 then 1 else 0 := by
  unfold countL
  rw [List.take_add_one, h, List.filter_append, List.length_append]
  by_cases hv : v = 0
  · rw [if_neg (fun k => k hv)]
    subst hv
    rfl
  · rw [if_pos hv]
    have e : (some v).toList.filter (fun v => decide (v ≠ 0)) = [v] := by simp [hv]
    rw [e]
    rfl
theorem count_bound (l : List Int) : 0 ≤ countL l ∧ countL l ≤ (l.length : Int) := by
  have := List.length_filter_le (fun v : Int => decide (v ≠ 0)) l
  unfold countL
  omega
end
end Go.Proofs.YtkkgpdejmcpcpaaGreatDoor

