/- CoefBack, plain: squares coded one behind the other come back; and a coder with a row of one's own. -/
import Derived.Test.YtnlfnknkiggejaaDoorOwnC
namespace Go.Proofs.YtnlfnknkiggejaaDoor
open Go.RowKit

def sdL (zs : List Int) : Nat := if zs.length = 16 then 4 else 8
def baseL (zs : List Int) : Nat := if zs.length = 16 then 14 else 39
theorem sized_L {zs : List Int} (h : checkNo zs = 0) : Sized zs (sdL zs) (baseL zs) ∧ zs.any lvOut = false := by
  unfold checkNo at h
  by_cases h1 : zs.length ≠ 16 ∧ zs.length ≠ 64
  · rw [if_pos h1] at h; omega
  · rw [if_neg h1] at h
    have h2 : zs.any lvOut = false := by
      cases hq : zs.any lvOut
      · rfl
      · rw [hq] at h; exact absurd h (by decide)
    refine ⟨?_, h2⟩
    unfold sdL baseL
    by_cases h3 : zs.length = 16
    · rw [if_pos h3, if_pos h3]; exact .inl ⟨rfl, rfl, h3⟩
    · rw [if_neg h3, if_neg h3]; exact .inr ⟨rfl, rfl, by omega⟩
theorem sized_len {zs l : List Int} {sd base : Nat} (h : Sized zs sd base) (hl : l.length = zs.length) : Sized l sd base := by
  unfold Sized at h ⊢
  rw [hl]
  exact h
def sqL (zs : List Int) : Ask SqR := squareA (baseL zs) (ordOf (sdL zs)) zs
theorem ctx_L (zs l : List Int) : (squareA (baseL zs) (ordOf (sdL zs)) l).Ctx := ctx_square _ (by unfold baseL; split <;> omega) _ _
/-- The writer behind these squares. -/
def wsq (D : List (List Int)) : Wr := D.foldl (fun s zs => (wrM.run (sqL zs) s).2) Wr.new
theorem wsq_nil : wsq [] = Wr.new := rfl
theorem wsq_snoc (D : List (List Int)) (zs : List Int) : wsq (D ++ [zs]) = (wrM.run (sqL zs) (wsq D)).2 := by
  unfold wsq
  rw [List.foldl_append]
  rfl
theorem bk_L {f : Enc} (hf : 1 ≤ f.r) (zs l : List Int) (hl : l.length = zs.length) (s : Wr) (t : Rd) : Bk f s t (wrM.run (sqL zs) s) (rdM.run (squareA (baseL zs) (ordOf (sdL zs)) l) t) :=
  Bk.run hf _ _ (ctx_L zs zs) (shape_square _ _ _ _ hl.symm) s t
theorem good_step (zs : List Int) (s : Wr) (h : GoodW s) : Inside s.e (wrM.run (sqL zs) s).2.e ∧ GoodW (wrM.run (sqL zs) s).2 := by
  have h1 := bk_L (f := ⟨[], 0, 1⟩) (by show 1 ≤ 1; omega) zs zs rfl s (Rd.new []) h
  exact ⟨h1.1, h1.2.1⟩
theorem good_from : ∀ (D : List (List Int)) (s : Wr), GoodW s → GoodW (D.foldl (fun s zs => (wrM.run (sqL zs) s).2) s) ∧ Inside s.e (D.foldl (fun s zs => (wrM.run (sqL zs) s).2) s).e
  | [], s, h => ⟨h, Inside.refl _⟩
  | zs :: D, s, h => by
    have h1 := good_step zs s h
    have h2 := good_from D _ h1.2
    exact ⟨h2.1, h1.1.trans h2.2⟩
theorem good_new : GoodW Wr.new := ⟨pok_first, by show 16777216 ≤ 4294967295; omega, by show 4294967295 ≤ 4294967295; omega, fit_new⟩
theorem good_wsq (D : List (List Int)) : GoodW (wsq D) := (good_from D Wr.new good_new).1
theorem in_wsq (D : List (List Int)) (k : Nat) : Inside (wsq (D.take k)).e (wsq D).e := by
  have h := (good_from (D.drop k) (wsq (D.take k)) (good_wsq _)).2
  have e : (D.drop k).foldl (fun s zs => (wrM.run (sqL zs) s).2) (wsq (D.take k)) = wsq D := by
    unfold wsq
    rw [← List.foldl_append, List.take_append_drop]
  rw [e] at h
  exact h
/-- A reader of the bytes tells the next square. -/
theorem back_sq (D : List (List Int)) (k : Nat) (zs : List Int) (hz : D[k]? = some zs) (hc : checkNo zs = 0) (t : Rd) (ht : Tr (wsq D).e (wsq (D.take k)) t) (l : List Int) (hl : l.length = zs.length) :
    (rdM.run (squareA (baseL zs) (ordOf (sdL zs)) l) t).1 = (none, zs) ∧ Tr (wsq D).e (wsq (D.take (k + 1))) (rdM.run (squareA (baseL zs) (ordOf (sdL zs)) l) t).2 := by
  have hf : 1 ≤ (wsq D).e.r := by have := (good_wsq D).r0; omega
  have hk := (List.getElem?_eq_some_iff.1 hz).1
  have ek : D.take (k + 1) = D.take k ++ [zs] := by
    rw [List.take_add_one, hz]
    rfl
  have es : wsq (D.take (k + 1)) = (wrM.run (sqL zs) (wsq (D.take k))).2 := by rw [ek, wsq_snoc]
  have hin := in_wsq D (k + 1)
  rw [es] at hin ⊢
  have h := (bk_L hf zs l hl (wsq (D.take k)) t (good_wsq _)).2.2 ht hin
  obtain ⟨hsd, hv⟩ := sized_L hc
  obtain ⟨ho, _, hn⟩ := ord_sized hsd
  have e1 : (wrM.run (sqL zs) (wsq (D.take k))).1 = (none, zs) := by
    rw [echo_wr.run]
    refine say_square _ _ zs ho ?_ hn
    intro v hvm
    apply lvOut_false
    rw [Bool.eq_false_iff]
    intro h2
    have := List.any_eq_true.2 ⟨v, hvm, h2⟩
    rw [hv] at this
    exact Bool.noConfusion this
  exact ⟨by rw [← h.1, e1], h.2⟩
theorem back_tr (D : List (List Int)) : Tr (wsq D).e (wsq (D.take 0)) (Rd.new (wsq D).e.bytes) := ⟨rfl, Track.new _⟩
/-- A number between -9 and 9. -/
theorem small_in {l : List Int} (h : ∀ v ∈ l, -9 ≤ v ∧ v ≤ 9) : l.any lvOut = false := by
  rw [Bool.eq_false_iff]
  intro h2
  obtain ⟨v, hv, hp⟩ := List.any_eq_true.1 h2
  have := h v hv
  rw [lvOut_true (by omega) (by omega)] at hp
  exact Bool.noConfusion hp

/-! ### A coder and a row of slices -/
theorem row_farC {w w' : World} {base n : Nat} {t : TypeId} {v : Value} {xs : List Value} {S : Nat → Prop} (h : w.ownsRow base t 1 v n xs) (ho : Only S w w') (hv : ∀ k, v.ownBlock = some k → ¬ S k) : w'.ownsRow base t 1 v n xs := by
  refine ⟨h.1, ?_⟩
  rcases h.2 with hn | ⟨g, cap, cur, hv', hb, hg, hr⟩
  · exact .inl hn
  · refine .inr ⟨g, cap, cur, hv', hb, ?_, hr⟩
    have hlt := (Array.getElem?_eq_some_iff.1 hg).1
    rw [ho.block g hlt (hv g (by rw [hv']; rfl))]
    exact hg
section
variable {σ : Type} {M : Mach σ} {fB fF : FuncId} {me : Value} {At : World → (Nat → Prop) → σ → Prop} {Ok : σ → Nat → Prop} {w W W' : World} {s s' : σ} {F F' : Nat → Prop} {ty : TypeId} {v : Value} {n : Nat} {xs : List Value}
structure DoneAt (At : World → (Nat → Prop) → σ → Prop) (ty : TypeId) (v : Value) (n : Nat) (xs : List Value) (w : World) (s : σ) (W : World) (F : Nat → Prop) : Prop where
  c : OwnC At w s W F
  own : W.ownsRow w.heap.size ty 1 v n xs
  far : ∀ k, v.ownBlock = some k → ¬ F k
theorem DoneAt.below (H : IsCoder M fB fF me At Ok) (h : DoneAt At ty v n xs w s W F) (hb : Below W.heap.size W W') : DoneAt At ty v n xs w s W' F :=
  ⟨h.c.below H hb, row_farC h.own (Only.of_below (S := fun _ => False) hb) (fun _ _ h => h), h.far⟩
theorem DoneAt.code (h : DoneAt At ty v n xs w s W F) (c : CW At W F s' W' F') : DoneAt At ty v n xs w s' W' F' :=
  ⟨h.c.code c, row_farC h.own c.o h.far, fun k hk hF => by
    rcases c.f k hF with h1 | h1
    · exact h.far k hk h1
    · have := (h.own.lt k hk).2; omega⟩
theorem DoneAt.only {S : Nat → Prop} (H : IsCoder M fB fF me At Ok) (h : DoneAt At ty v n xs w s W F) (o : Only S W W') (hF : ∀ k, F k → ¬ S k) (hv : ∀ k, v.ownBlock = some k → ¬ S k) (hw : ∀ k, S k → w.heap.size ≤ k) : DoneAt At ty v n xs w s W' F :=
  ⟨⟨H.keep _ _ _ _ _ h.c.a o hF, h.c.lo, h.c.bel.trans ⟨o.os, o.tape, o.output, o.size, fun k hk => o.block k (by have := h.c.bel.size; omega) (fun e => by have := hw k e; omega)⟩⟩, row_farC h.own o hv, h.far⟩
theorem DoneAt.grown (H : IsCoder M fB fF me At Ok) (h : DoneAt At ty v n xs w s W F) {g cap n' : Nat} {xs' : List Value} (hg : W.grownBy W' v.ownBlock) (ho : W'.ownsRow w.heap.size ty 1 (.slice (some ⟨g, 0, none⟩) n' cap) n' xs') (hat : v.ownBlock = some g ∨ g = W.heap.size) :
    DoneAt At ty (.slice (some ⟨g, 0, none⟩) n' cap) n' xs' w s W' F := by
  have o : Only (fun k => v.ownBlock = some k) W W' := ⟨hg.os, hg.tape, hg.output, hg.size, fun k hk hn => hg.block k hk (fun e => hn e.symm)⟩
  refine ⟨⟨H.keep _ _ _ _ _ h.c.a o (fun k hk hv => h.far k hv hk), h.c.lo, h.c.bel.trans ⟨o.os, o.tape, o.output, o.size, fun k hk => o.block k (by have := h.c.bel.size; omega) (fun e => by have := (h.own.lt k e).1; omega)⟩⟩, ho, fun k hk hF => ?_⟩
  simp [Value.ownBlock] at hk
  subst hk
  rcases hat with e | e
  · exact h.far _ e hF
  · have := H.there _ _ _ _ h.c.a hF; omega
end
/-- The slices read as these squares, all of them such as may be coded. -/
def Squares (w : World) (xs : List Value) (D : List (List Int)) : Prop := xs.length = D.length ∧ ∀ (k : Nat) (zs : List Int), D[k]? = some zs → checkNo zs = 0 ∧ ∃ x, xs[k]? = some x ∧ Nums w x zs
theorem Squares.nil (w : World) : Squares w [] [] := ⟨rfl, fun k zs h => by simp at h⟩
theorem Squares.snoc {w : World} {xs : List Value} {D : List (List Int)} {x : Value} {zs : List Int} (h : Squares w xs D) (hc : checkNo zs = 0) (hx : Nums w x zs) : Squares w (xs ++ [x]) (D ++ [zs]) := by
  refine ⟨by simp [h.1], fun k q hk => ?_⟩
  by_cases e : k < D.length
  · rw [List.getElem?_append_left e] at hk
    obtain ⟨h1, y, h2, h3⟩ := h.2 k q hk
    exact ⟨h1, y, by rw [List.getElem?_append_left (by rw [h.1]; exact e)]; exact h2, h3⟩
  · rw [List.getElem?_append_right (by omega)] at hk
    have hk0 : k - D.length = 0 := by
      have := (List.getElem?_eq_some_iff.1 hk).1
      simp at this
      omega
    rw [hk0] at hk
    have hq : zs = q := by simpa using hk
    subst hq
    refine ⟨hc, x, ?_, hx⟩
    rw [List.getElem?_append_right (by rw [h.1]; omega), h.1, hk0]
    rfl
theorem from_one {W : World} {g : Nat} {t : TypeId} {x : Value} (h : Blk W g t #[x]) : From W 1 (.slice (some ⟨g, 0, none⟩) 1 1) 1 [x] := ⟨_, _, rfl, rfl, fun _ => ⟨_, rfl, World.news_of_block h⟩⟩
theorem info_sl : (Tryd.prog.info? 29).map (fun i => (i.zero, i.size, i.bytes)) = some (some (.slice none 0 0), 1, 24) := by kernel_rfl
end Go.Proofs.YtnlfnknkiggejaaDoor
