/- kinlaw14.first; coef.Code at a writer, at a reader, where it refuses. -/
import Derived.Test.YtnlfnknkiggejaaDoorCoefC
import Derived.Test.YtnlfnknkiggejaaDoorNewC
import Derived.Test.YtnlfnknkiggejaaDoorCommon
namespace Go.Proofs.YtnlfnknkiggejaaDoor
open Go.RowKit

set_option maxRecDepth 100000 in
theorem code_bad (T : TypeId) (p x : Value) (l : List Int) (w : World) (hx : Nums w x l) (hl : l.length ≤ 1000000000) (hc : checkNo l ≠ 0) :
    Calls Tryd.prog 18 #[.iface T p, x] w fun e w' => e = .returned (.tuple #[.slice none 0 0, codeV (checkNo l)]) ∧ w' = w := by
  have H := hid (check_any x l w hx hl)
  obtain ⟨A, c, rfl, _⟩ := hx.form
  have hv : codeV (checkNo l) = .iface 35 (.int .i64 (checkNo l)) := by unfold codeV; rw [if_neg hc]
  rw [hv] at H ⊢
  clear hx hl hc hv
  generalize checkNo l = cn at *
  go_enter Tryd.func18, Tryd.ntmps18
  go_wp2_with fail
  refine H.out.mono ?_
  rintro e w2 ⟨rfl, rfl⟩
  go_wp2_with fail
  go_ret2
  exact ⟨rfl, rfl⟩
set_option maxRecDepth 100000 in
theorem base5 (w : World) : Calls Tryd.prog 32 #[.int .i64 5] w fun e w' => e = .returned (.int .i64 0) ∧ w' = w := by
  go_enter Tryd.func32, Tryd.ntmps32
  go_wp2_with fail
  go_ret
  exact ⟨rfl, rfl⟩
/-- The two sizes. -/
def Sized (l : List Int) (sd base : Nat) : Prop := (sd = 4 ∧ base = 14 ∧ l.length = 16) ∨ (sd = 8 ∧ base = 39 ∧ l.length = 64)
theorem wcode (b sd base : Nat) (x : Value) (l : List Int) (hsd : Sized l sd base) (hin : l.any lvOut = false) (s : Wr) (w : World) (F : Nat → Prop) (lim : Nat) (hs : AtWr b w F s) (ho : s.Ok lim) (hl : lim + 10000 ≤ 1000000000) (hx : NOff x l w F) :
    Calls Tryd.prog 18 #[.iface 24 (.pointer (some ⟨b, 0, none⟩)), x] w (CodeRes wrM (AtWr b) w F (squareA base (ordOf sd) l) s) :=
  code_any b _ (wr_coder b) (wr_speaks b) (wr_speaks2 b) sd base x l hsd hin s w F lim hs ho hl hx
theorem rcode (b sd base : Nat) (x : Value) (l : List Int) (hsd : Sized l sd base) (hin : l.any lvOut = false) (s : Rd) (w : World) (F : Nat → Prop) (lim : Nat) (hs : AtRd b w F s) (ho : s.Ok lim) (hl : lim + 10000 ≤ 1000000000) (hx : NOff x l w F) :
    Calls Tryd.prog 18 #[.iface 51 (.pointer (some ⟨b, 0, none⟩)), x] w (CodeRes rdM (AtRd b) w F (squareA base (ordOf sd) l) s) :=
  code_any b _ (rd_coder b) (rd_speaks b) (rd_speaks2 b) sd base x l hsd hin s w F lim hs ho hl hx
theorem CodeRes.moved {σ : Type} {M : Mach σ} {At : World → (Nat → Prop) → σ → Prop} {w w' : World} {F : Nat → Prop} {p : Ask SqR} {s : σ} {e : Ending} (h : CodeRes M At w F p s e w') : Moved At w F (M.run p s).2 w' ∧ ∃ F', SqAns w (M.run p s).1 F' e w' := by
  obtain ⟨F', h1, h2⟩ := h
  exact ⟨⟨F', h1.a, h1.o, h1.f⟩, F', h2⟩
theorem noff_new {W : World} {F : Nat → Prop} {g n : Nat} {l : List Int} {cs : Array Value} (h : Blk W g 3 cs) (hc : cs = (l.map intV).toArray) (hn : l.length = n) (hF : ¬ F g) : NOff (.slice (some ⟨g, 0, none⟩) n n) l W F := by
  subst hn
  refine ⟨⟨_, _, rfl, Nat.le_refl _, fun _ => ⟨g, 0, rfl, h.lt, fun i v hv => ?_⟩⟩, fun k hk hFk => ?_, fun k hk => ?_⟩
  · rw [Nat.zero_add, h.cell, hc]
    simp [hv, intV]
  · have e : g = k := by simpa [Value.ownBlock] using hk
    exact hF (by rw [e]; exact hFk)
  · have e : g = k := by simpa [Value.ownBlock] using hk
    rw [← e]
    exact h.lt
def fr14 : SqR × Rd := rdM.run (squareA 39 (ordOf 8) (zerosL 64)) (Rd.new [])
theorem fr14_none : fr14.1.1 = none ∧ fr14.1.2.length = 64 := by decide +kernel
def fw14 : Wr := (wrM.bit Wr.new 14 false).2
theorem fw14_run : wrM.run (squareA 14 (ordOf 4) (zerosL 16)) Wr.new = ((none, zerosL 16), fw14) := run_zeros wrM echo_wr 14 (ordOf 4) 16 Wr.new
theorem fw14_bytes : fw14.e.bytes = [] := by decide +kernel
theorem fw14_ok : fw14.Ok 3 := (wr_coder 0).okBit Wr.new 14 false 0 ok_wr_new
set_option maxRecDepth 100000 in
set_option maxHeartbeats 4000000 in
theorem first14 (w : World) (hg : ErrT w) : Calls Tryd.prog 13 #[] w fun e w' => e = .returned (.bool true) ∧ Below w.heap.size w w' := by
  have HG := hid (And.intro hg hg.lt)
  have hmk : ∀ W : World, (Instr.makeSlice 29 (.int .i64 16) (.int .i64 16)).run Tryd.prog W = .ok (.slice (some ⟨W.heap.size, 0, none⟩) 16 16) (W.alloc (.cells #[.int .i64 0, .int .i64 0, .int .i64 0, .int .i64 0, .int .i64 0, .int .i64 0, .int .i64 0, .int .i64 0, .int .i64 0, .int .i64 0, .int .i64 0, .int .i64 0, .int .i64 0, .int .i64 0, .int .i64 0, .int .i64 0] 3)) := fun _ => by kernel_rfl
  have hmk2 := run_make_int 64 (by omega)
  rw [show ((64 : Nat) : Int) = 64 from rfl] at hmk2
  clear hg
  go_enter Tryd.func13, Tryd.ntmps13
  go_wp2_with fail
  refine (new_wr _).mono ?_
  rintro e w1 ⟨b1, F1, rfl, ha1, hf1, hb1⟩
  have ht1 : ∀ k, F1 k → k < w1.heap.size := fun k hk => (wr_coder b1).there _ _ _ _ ha1 hk
  have A1 := hid (And.intro ha1 (And.intro hf1 (And.intro hb1 ht1)))
  clear ha1 hf1 hb1 ht1
  go_wp2_with fail
  refine (new_rd (.slice none 0 0) [] _ ⟨none, 0, rfl, rfl, fun h => absurd rfl h⟩ (by simp)).mono ?_
  rintro e w2 ⟨b2, F2, rfl, ha2, hf2, hb2⟩
  have T2 := hid (show Two w.heap.size w (AtWr b1) (AtRd b2) Wr.new (Rd.new []) w2 from ⟨F1, F2, (wr_coder b1).keep _ _ F1 (fun _ => False) _ A1.out.1 (Only.of_below hb2) (fun _ _ h => h), ha2, fun k h1 h2 => by have := A1.out.2.2.2 k h1; have := hf2 k h2; omega, A1.out.2.1, fun k hk => Nat.le_trans A1.out.2.2.1.size (hf2 k hk), A1.out.2.2.1.trans (hb2.mono A1.out.2.2.1.size), Nat.le_trans A1.out.2.2.1.size hb2.size⟩)
  clear ha2 hf2 hb2
  go_wp2_with fail
  have hal : Below w2.heap.size w2 (w2.alloc (.cells #[.int .i64 0, .int .i64 0, .int .i64 0, .int .i64 0, .int .i64 0, .int .i64 0, .int .i64 0, .int .i64 0, .int .i64 0, .int .i64 0, .int .i64 0, .int .i64 0, .int .i64 0, .int .i64 0, .int .i64 0, .int .i64 0] 3)) := (Below.refl _ _).alloc (Nat.le_refl _) _
  obtain ⟨F, G, hT⟩ := T2.out
  have hT3 := hT.below (wr_coder b1) (rd_coder b2) hal
  have hx3 := noff_new (l := zerosL 16) (F := F) (Blk.new w2 3 #[.int .i64 0, .int .i64 0, .int .i64 0, .int .i64 0, .int .i64 0, .int .i64 0, .int .i64 0, .int .i64 0, .int .i64 0, .int .i64 0, .int .i64 0, .int .i64 0, .int .i64 0, .int .i64 0, .int .i64 0, .int .i64 0]) rfl rfl (fun h => by have := (wr_coder b1).there _ _ _ _ hT.l h; omega)
  have T3 := hid (And.intro hT3 hx3)
  clear hal hT hT3 hx3
  refine (wcode b1 4 14 _ (zerosL 16) (.inl ⟨rfl, rfl, rfl⟩) (by decide +kernel) Wr.new _ F 0 (by exact T3.out.1.l) ok_wr_new (by omega) (by exact T3.out.2)).mono ?_
  rintro e w4 hres
  obtain ⟨hm4, F4, hans⟩ := hres.moved
  rw [fw14_run] at hm4 hans
  obtain ⟨g4, rfl, _⟩ := hans
  have T4 := hid (T3.out.1.left (rd_coder b2) hm4)
  rw [show ((none, zerosL 16) : SqR).2.length = 16 from rfl]
  dsimp only at T4
  clear hres hm4
  go_wp2_with fail
  have hal : Below w4.heap.size w4 (w4.alloc (.cells #[.int .i64 1, .int .i64 2, .int .i64 3] 3)) := (Below.refl _ _).alloc (Nat.le_refl _) _
  obtain ⟨F5, G5, hT⟩ := T4.out
  have hx5 := noff_new (l := [1, 2, 3]) (F := F5) (Blk.new w4 3 #[.int .i64 1, .int .i64 2, .int .i64 3]) rfl rfl (fun h => by have := (wr_coder b1).there _ _ _ _ hT.l h; omega)
  have T5 := hid (And.intro (hT.below (wr_coder b1) (rd_coder b2) hal) hx5)
  clear hal hT hx5
  refine (code_bad _ _ _ [1, 2, 3] _ (by exact T5.out.2.n) (by decide) (by decide +kernel)).mono ?_
  rintro e w6 ⟨rfl, rfl⟩
  rw [show checkNo [1, 2, 3] = 14 by decide +kernel, show codeV 14 = .iface 35 (.int .i64 14) from rfl]
  generalize w4.alloc (.cells #[.int .i64 1, .int .i64 2, .int .i64 3] 3) = w6 at *
  have T6 := hid T5.out.1
  clear T5
  go_wp2_with fail
  have hal : Below w6.heap.size w6 (w6.alloc (.cells #[.int .i64 0, .int .i64 0, .int .i64 0, .int .i64 16321, .int .i64 0, .int .i64 0, .int .i64 0, .int .i64 0, .int .i64 0, .int .i64 0, .int .i64 0, .int .i64 0, .int .i64 0, .int .i64 0, .int .i64 0, .int .i64 0] 3)) := (Below.refl _ _).alloc (Nat.le_refl _) _
  have hx5 := noff_new (l := [0, 0, 0, 16321, 0, 0, 0, 0, 0, 0, 0, 0, 0, 0, 0, 0]) (F := F5) (Blk.new w6 3 #[.int .i64 0, .int .i64 0, .int .i64 0, .int .i64 16321, .int .i64 0, .int .i64 0, .int .i64 0, .int .i64 0, .int .i64 0, .int .i64 0, .int .i64 0, .int .i64 0, .int .i64 0, .int .i64 0, .int .i64 0, .int .i64 0]) rfl rfl (fun h => by have := (wr_coder b1).there _ _ _ _ T6.out.l h; omega)
  have T7 := hid (And.intro (T6.out.below (wr_coder b1) (rd_coder b2) hal) hx5)
  clear hal hx5
  refine (code_bad _ _ _ [0, 0, 0, 16321, 0, 0, 0, 0, 0, 0, 0, 0, 0, 0, 0, 0] _ (by exact T7.out.2.n) (by decide) (by decide +kernel)).mono ?_
  rintro e w8 ⟨rfl, rfl⟩
  rw [show checkNo [0, 0, 0, 16321, 0, 0, 0, 0, 0, 0, 0, 0, 0, 0, 0, 0] = 3 by decide +kernel, show codeV 3 = .iface 35 (.int .i64 3) from rfl]
  generalize w6.alloc (.cells #[.int .i64 0, .int .i64 0, .int .i64 0, .int .i64 16321, .int .i64 0, .int .i64 0, .int .i64 0, .int .i64 0, .int .i64 0, .int .i64 0, .int .i64 0, .int .i64 0, .int .i64 0, .int .i64 0, .int .i64 0, .int .i64 0] 3) = w8 at *
  have T8 := hid T7.out.1
  clear T7
  go_wp2_with fail
  have hal : Below w8.heap.size w8 (w8.alloc (.cells ((zerosL 64).map intV).toArray 3)) := (Below.refl _ _).alloc (Nat.le_refl _) _
  have hx5 := noff_new (n := 64) (l := zerosL 64) (F := G5) (Blk.new w8 3 ((zerosL 64).map intV).toArray) rfl (by decide +kernel) (fun h => by have := (rd_coder b2).there _ _ _ _ T8.out.r h; omega)
  have T9 := hid (And.intro (T8.out.below (wr_coder b1) (rd_coder b2) hal) hx5)
  clear hal hx5
  refine (rcode b2 8 39 _ (zerosL 64) (.inr ⟨rfl, rfl, by decide +kernel⟩) (by decide +kernel) (Rd.new []) _ G5 4 (by exact T9.out.1.r) (ok_rd_new []) (by omega) (by exact T9.out.2)).mono ?_
  rintro e w10 hres
  obtain ⟨hm10, F10, hans⟩ := hres.moved
  rw [show rdM.run (squareA 39 (ordOf 8) (zerosL 64)) (Rd.new []) = fr14 from rfl] at hm10 hans
  have T10 := hid (T9.out.1.right (wr_coder b1) hm10)
  have hn := fr14_none
  clear hres hm10
  generalize fr14 = q at *
  obtain ⟨⟨qo, ql⟩, qs⟩ := q
  dsimp only at hn hans T10
  obtain ⟨rfl, hn2⟩ := hn
  obtain ⟨g10, rfl, _⟩ := hans
  rw [show ((none, ql) : SqR).2.length = 64 from hn2]
  obtain ⟨F11, G11, hT11⟩ := T10.out
  have T11 := hid hT11
  clear hT11 hn2
  go_wp2_with fail
  refine (fail_any 14 _).mono ?_
  rintro e w12 ⟨rfl, hb⟩
  have T12 := hid (T11.out.below (wr_coder b1) (rd_coder b2) hb)
  clear hb
  go_wp2_with fail
  have HE := hid (err_same 14)
  rw [show codeV 14 = .iface 35 (.int .i64 14) from rfl] at HE
  refine (HE.out _ (by exact HG.out.1.below T12.out.bel HG.out.2)).mono ?_
  rintro e w13 ⟨rfl, hb⟩
  have T13 := hid (T12.out.below (wr_coder b1) (rd_coder b2) hb)
  clear hb
  go_wp2_with fail
  refine (fail_any 3 _).mono ?_
  rintro e w14 ⟨rfl, hb⟩
  have T14 := hid (T13.out.below (wr_coder b1) (rd_coder b2) hb)
  clear hb
  go_wp2_with fail
  have HE2 := hid (err_same 3)
  rw [show codeV 3 = .iface 35 (.int .i64 3) from rfl] at HE2
  refine (HE2.out _ (by exact HG.out.1.below T14.out.bel HG.out.2)).mono ?_
  rintro e w15 ⟨rfl, hb⟩
  have T15 := hid (T14.out.below (wr_coder b1) (rd_coder b2) hb)
  clear hb
  go_wp2_with fail
  refine (wr_endA b1 _ F11 fw14 3 (by exact T15.out.l) fw14_ok (by omega)).mono ?_
  rintro e w16 ⟨g16, cap16, rfl, _, hb⟩
  rw [show fw14.e.bytes.length = 0 by rw [fw14_bytes]; rfl]
  have T16 := hid (T15.out.below (wr_coder b1) (rd_coder b2) hb)
  clear hb
  go_wp2_with fail
  refine (base8 _).mono ?_
  rintro e w17 ⟨rfl, rfl⟩
  go_wp2_with fail
  refine (base5 _).mono ?_
  rintro e w18 ⟨rfl, rfl⟩
  go_wp2_with fail
  go_ret
  exact ⟨rfl, T16.out.bel⟩
end Go.Proofs.YtnlfnknkiggejaaDoor
