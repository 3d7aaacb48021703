/- Parts: XSqBack, XLawCBack, XSBackFew, XSBackP, XSBackQ. -/
import Derived.Test.YtkkgpdejmcpcpaaDoorM30
import Derived.Test.YtkkgpdejmcpcpaaDoorM18
import Derived.Deep.RegionHeld3
import Derived.Lib.MinMax
import Derived.Deep.RegionHeldLaw
import Derived.Test.YtkkgpdejmcpcpaaDoorM27
import Derived.Test.YtkkgpdejmcpcpaaDoorM29
/- Chapter 20, plain: squares coded one behind the other come back. -/
namespace Go.Proofs.YtkkgpdejmcpcpaaDoor
open Go.RowKit

theorem sqW_nil : sqW [] = Wr.new := rfl
theorem sqW_snoc (D : List (Bool × SqS)) (q : Bool × SqS) : sqW (D ++ [q]) = (wrM.run (codeA q.1 (fixS q.2)) (sqW D)).2 := by
  unfold sqW
  rw [List.foldl_append]
  rfl
theorem bk_S {f : Enc} (hf : 1 ≤ f.r) {key : Bool} {z z' : SqS} (h : (codeA key z).Shape (codeA key z')) (s : Wr) (t : Rd) : Bk f s t (wrM.run (codeA key z) s) (rdM.run (codeA key z') t) :=
  Bk.run hf _ _ (ctx_code key z) h s t
theorem good_stepS (q : Bool × SqS) (s : Wr) (h : GoodW s) : Inside s.e (wrM.run (codeA q.1 (fixS q.2)) s).2.e ∧ GoodW (wrM.run (codeA q.1 (fixS q.2)) s).2 := by
  have h1 := bk_S (f := ⟨[], 0, 1⟩) (by show 1 ≤ 1; omega) (Shape.refl (codeA q.1 (fixS q.2))) s (Rd.new []) h
  exact ⟨h1.1, h1.2.1⟩
theorem good_fromS : ∀ (D : List (Bool × SqS)) (s : Wr), GoodW s → GoodW (D.foldl (fun s q => (wrM.run (codeA q.1 (fixS q.2)) s).2) s) ∧ Inside s.e (D.foldl (fun s q => (wrM.run (codeA q.1 (fixS q.2)) s).2) s).e
  | [], s, h => ⟨h, Inside.refl _⟩
  | q :: D, s, h => by
    have h1 := good_stepS q s h
    have h2 := good_fromS D _ h1.2
    exact ⟨h2.1, h1.1.trans h2.2⟩
theorem good_newS : GoodW Wr.new := ⟨pok_first, by show 16777216 ≤ 4294967295; omega, by show 4294967295 ≤ 4294967295; omega, fit_new⟩
theorem good_sqW (D : List (Bool × SqS)) : GoodW (sqW D) := (good_fromS D Wr.new good_newS).1
theorem in_sqW (D : List (Bool × SqS)) (k : Nat) : Inside (sqW (D.take k)).e (sqW D).e := by
  have h := (good_fromS (D.drop k) (sqW (D.take k)) (good_sqW _)).2
  have e : (D.drop k).foldl (fun s q => (wrM.run (codeA q.1 (fixS q.2)) s).2) (sqW (D.take k)) = sqW D := by
    unfold sqW
    rw [← List.foldl_append, List.take_append_drop]
  rw [e] at h
  exact h
/-- A writer tells the parts, with whatever lists the code fills in. -/
theorem wr_fix {key : Bool} {s : SqS} (h : RightS key s) (h4 : Four s) (t : Wr) : (wrM.run (codeA key (fixS s)) t).1 = (none, partsS s) := by
  rw [fix_run echo_wr h]
  exact echo_told echo_wr h h4 t
/-- A reader of the bytes tells the next square. -/
theorem back_S (D : List (Bool × SqS)) (k : Nat) (key : Bool) (s : SqS) (hz : D[k]? = some (key, s)) (h : RightS key s) (h4 : Four s) (t : Rd) (ht : Tr (sqW D).e (sqW (D.take k)) t) :
    (rdM.run (codeA key zeroS) t).1 = (none, partsS s) ∧ Tr (sqW D).e (sqW (D.take (k + 1))) (rdM.run (codeA key zeroS) t).2 := by
  have hf : 1 ≤ (sqW D).e.r := by have := (good_sqW D).r0; omega
  have ek : D.take (k + 1) = D.take k ++ [(key, s)] := by
    rw [List.take_add_one, hz]
    rfl
  have es : sqW (D.take (k + 1)) = (wrM.run (codeA key (fixS s)) (sqW (D.take k))).2 := by rw [ek, sqW_snoc]
  have hin := in_sqW D (k + 1)
  rw [es] at hin ⊢
  have h1 := (bk_S hf (fix_shape h h4) (sqW (D.take k)) t (good_sqW _)).2.2 ht hin
  exact ⟨by rw [← h1.1, wr_fix h h4], h1.2⟩
theorem back_trS (D : List (Bool × SqS)) : Tr (sqW D).e (sqW (D.take 0)) (Rd.new (sqW D).e.bytes) := ⟨rfl, Track.new _⟩
end Go.Proofs.YtkkgpdejmcpcpaaDoor

/- CoefBack: plain; the walk. -/
/- CoefBack, plain: squares coded one behind the other come back; and a coder with a row of one's own. -/
namespace Go.Proofs.YtkkgpdejmcpcpaaDoor
open Go.RowKit

def sdL (zs : List Int) : Nat := if zs.length = 16 then 4 else 8
def baseL (zs : List Int) : Nat := if zs.length = 16 then 14 else 39
theorem sized_L {zs : List Int} (h : checkNo zs = 0) : Sized zs (sdL zs) (baseL zs) ∧ zs.any lvOut = false := by
  unfold checkNo at h
  by_cases h1 : zs.length ≠ 16 ∧ zs.length ≠ 64
  · rw [if_pos h1] at h; omega
  · rw [if_neg h1] at h
    have h2 : zs.any lvOut = false := by
      cases hq : zs.any lvOut
      · rfl
      · rw [hq] at h; exact absurd h (by decide)
    refine ⟨?_, h2⟩
    unfold sdL baseL
    by_cases h3 : zs.length = 16
    · rw [if_pos h3, if_pos h3]; exact .inl ⟨rfl, rfl, h3⟩
    · rw [if_neg h3, if_neg h3]; exact .inr ⟨rfl, rfl, by omega⟩
theorem sized_len {zs l : List Int} {sd base : Nat} (h : Sized zs sd base) (hl : l.length = zs.length) : Sized l sd base := by
  unfold Sized at h ⊢
  rw [hl]
  exact h
def sqL (zs : List Int) : Ask SqR := squareA (baseL zs) (ordOf (sdL zs)) zs
theorem ctx_L (zs l : List Int) : (squareA (baseL zs) (ordOf (sdL zs)) l).Ctx := ctx_square _ (by unfold baseL; split <;> omega) _ _
/-- The writer behind these squares. -/
def wsq (D : List (List Int)) : Wr := D.foldl (fun s zs => (wrM.run (sqL zs) s).2) Wr.new
theorem wsq_nil : wsq [] = Wr.new := rfl
theorem wsq_snoc (D : List (List Int)) (zs : List Int) : wsq (D ++ [zs]) = (wrM.run (sqL zs) (wsq D)).2 := by
  unfold wsq
  rw [List.foldl_append]
  rfl
theorem bk_L {f : Enc} (hf : 1 ≤ f.r) (zs l : List Int) (hl : l.length = zs.length) (s : Wr) (t : Rd) : Bk f s t (wrM.run (sqL zs) s) (rdM.run (squareA (baseL zs) (ordOf (sdL zs)) l) t) :=
  Bk.run hf _ _ (ctx_L zs zs) (shape_square _ _ _ _ hl.symm) s t
theorem good_step (zs : List Int) (s : Wr) (h : GoodW s) : Inside s.e (wrM.run (sqL zs) s).2.e ∧ GoodW (wrM.run (sqL zs) s).2 := by
  have h1 := bk_L (f := ⟨[], 0, 1⟩) (by show 1 ≤ 1; omega) zs zs rfl s (Rd.new []) h
  exact ⟨h1.1, h1.2.1⟩
theorem good_from : ∀ (D : List (List Int)) (s : Wr), GoodW s → GoodW (D.foldl (fun s zs => (wrM.run (sqL zs) s).2) s) ∧ Inside s.e (D.foldl (fun s zs => (wrM.run (sqL zs) s).2) s).e
  | [], s, h => ⟨h, Inside.refl _⟩
  | zs :: D, s, h => by
    have h1 := good_step zs s h
    have h2 := good_from D _ h1.2
    exact ⟨h2.1, h1.1.trans h2.2⟩
theorem good_new : GoodW Wr.new := ⟨pok_first, by show 16777216 ≤ 4294967295; omega, by show 4294967295 ≤ 4294967295; omega, fit_new⟩
theorem good_wsq (D : List (List Int)) : GoodW (wsq D) := (good_from D Wr.new good_new).1
theorem in_wsq (D : List (List Int)) (k : Nat) : Inside (wsq (D.take k)).e (wsq D).e := by
  have h := (good_from (D.drop k) (wsq (D.take k)) (good_wsq _)).2
  have e : (D.drop k).foldl (fun s zs => (wrM.run (sqL zs) s).2) (wsq (D.take k)) = wsq D := by
    unfold wsq
    rw [← List.foldl_append, List.take_append_drop]
  rw [e] at h
  exact h
/-- A reader of the bytes tells the next square. -/
theorem back_sq (D : List (List Int)) (k : Nat) (zs : List Int) (hz : D[k]? = some zs) (hc : checkNo zs = 0) (t : Rd) (ht : Tr (wsq D).e (wsq (D.take k)) t) (l : List Int) (hl : l.length = zs.length) :
    (rdM.run (squareA (baseL zs) (ordOf (sdL zs)) l) t).1 = (none, zs) ∧ Tr (wsq D).e (wsq (D.take (k + 1))) (rdM.run (squareA (baseL zs) (ordOf (sdL zs)) l) t).2 := by
  have hf : 1 ≤ (wsq D).e.r := by have := (good_wsq D).r0; omega
  have hk := (List.getElem?_eq_some_iff.1 hz).1
  have ek : D.take (k + 1) = D.take k ++ [zs] := by
    rw [List.take_add_one, hz]
    rfl
  have es : wsq (D.take (k + 1)) = (wrM.run (sqL zs) (wsq (D.take k))).2 := by rw [ek, wsq_snoc]
  have hin := in_wsq D (k + 1)
  rw [es] at hin ⊢
  have h := (bk_L hf zs l hl (wsq (D.take k)) t (good_wsq _)).2.2 ht hin
  obtain ⟨hsd, hv⟩ := sized_L hc
  obtain ⟨ho, _, hn⟩ := ord_sized hsd
  have e1 : (wrM.run (sqL zs) (wsq (D.take k))).1 = (none, zs) := by
    rw [echo_wr.run]
    refine say_square _ _ zs ho ?_ hn
    intro v hvm
    apply lvOut_false
    rw [Bool.eq_false_iff]
    intro h2
    have := List.any_eq_true.2 ⟨v, hvm, h2⟩
    rw [hv] at this
    exact Bool.noConfusion this
  exact ⟨by rw [← h.1, e1], h.2⟩
theorem back_tr (D : List (List Int)) : Tr (wsq D).e (wsq (D.take 0)) (Rd.new (wsq D).e.bytes) := ⟨rfl, Track.new _⟩
/-- A number between -9 and 9. -/
theorem small_in {l : List Int} (h : ∀ v ∈ l, -9 ≤ v ∧ v ≤ 9) : l.any lvOut = false := by
  rw [Bool.eq_false_iff]
  intro h2
  obtain ⟨v, hv, hp⟩ := List.any_eq_true.1 h2
  have := h v hv
  rw [lvOut_true (by omega) (by omega)] at hp
  exact Bool.noConfusion hp

/-! ### A coder and a row of slices -/
theorem row_farC {w w' : World} {base n : Nat} {t : TypeId} {v : Value} {xs : List Value} {S : Nat → Prop} (h : w.ownsRow base t 1 v n xs) (ho : Only S w w') (hv : ∀ k, v.ownBlock = some k → ¬ S k) : w'.ownsRow base t 1 v n xs := by
  refine ⟨h.1, ?_⟩
  rcases h.2 with hn | ⟨g, cap, cur, hv', hb, hg, hr⟩
  · exact .inl hn
  · refine .inr ⟨g, cap, cur, hv', hb, ?_, hr⟩
    have hlt := (Array.getElem?_eq_some_iff.1 hg).1
    rw [ho.block g hlt (hv g (by rw [hv']; rfl))]
    exact hg
section
variable {σ : Type} {M : Mach σ} {fB fF : FuncId} {me : Value} {At : World → (Nat → Prop) → σ → Prop} {Ok : σ → Nat → Prop} {w W W' : World} {s s' : σ} {F F' : Nat → Prop} {ty : TypeId} {v : Value} {n : Nat} {xs : List Value}
structure DoneAt (At : World → (Nat → Prop) → σ → Prop) (ty : TypeId) (v : Value) (n : Nat) (xs : List Value) (w : World) (s : σ) (W : World) (F : Nat → Prop) : Prop where
  c : OwnC At w s W F
  own : W.ownsRow w.heap.size ty 1 v n xs
  far : ∀ k, v.ownBlock = some k → ¬ F k
theorem DoneAt.below (H : IsCoder M fB fF me At Ok) (h : DoneAt At ty v n xs w s W F) (hb : Below W.heap.size W W') : DoneAt At ty v n xs w s W' F :=
  ⟨h.c.below H hb, row_farC h.own (Only.of_below (S := fun _ => False) hb) (fun _ _ h => h), h.far⟩
theorem DoneAt.code (h : DoneAt At ty v n xs w s W F) (c : CW At W F s' W' F') : DoneAt At ty v n xs w s' W' F' :=
  ⟨h.c.code c, row_farC h.own c.o h.far, fun k hk hF => by
    rcases c.f k hF with h1 | h1
    · exact h.far k hk h1
    · have := (h.own.lt k hk).2; omega⟩
theorem DoneAt.only {S : Nat → Prop} (H : IsCoder M fB fF me At Ok) (h : DoneAt At ty v n xs w s W F) (o : Only S W W') (hF : ∀ k, F k → ¬ S k) (hv : ∀ k, v.ownBlock = some k → ¬ S k) (hw : ∀ k, S k → w.heap.size ≤ k) : DoneAt At ty v n xs w s W' F :=
  ⟨⟨H.keep _ _ _ _ _ h.c.a o hF, h.c.lo, h.c.bel.trans ⟨o.os, o.tape, o.output, o.size, fun k hk => o.block k (by have := h.c.bel.size; omega) (fun e => by have := hw k e; omega)⟩⟩, row_farC h.own o hv, h.far⟩
theorem DoneAt.grown (H : IsCoder M fB fF me At Ok) (h : DoneAt At ty v n xs w s W F) {g cap n' : Nat} {xs' : List Value} (hg : W.grownBy W' v.ownBlock) (ho : W'.ownsRow w.heap.size ty 1 (.slice (some ⟨g, 0, none⟩) n' cap) n' xs') (hat : v.ownBlock = some g ∨ g = W.heap.size) :
    DoneAt At ty (.slice (some ⟨g, 0, none⟩) n' cap) n' xs' w s W' F := by
  have o : Only (fun k => v.ownBlock = some k) W W' := ⟨hg.os, hg.tape, hg.output, hg.size, fun k hk hn => hg.block k hk (fun e => hn e.symm)⟩
  refine ⟨⟨H.keep _ _ _ _ _ h.c.a o (fun k hk hv => h.far k hv hk), h.c.lo, h.c.bel.trans ⟨o.os, o.tape, o.output, o.size, fun k hk => o.block k (by have := h.c.bel.size; omega) (fun e => by have := (h.own.lt k e).1; omega)⟩⟩, ho, fun k hk hF => ?_⟩
  simp [Value.ownBlock] at hk
  subst hk
  rcases hat with e | e
  · exact h.far _ e hF
  · have := H.there _ _ _ _ h.c.a hF; omega
end
/-- The slices read as these squares, all of them such as may be coded. -/
def Squares (w : World) (xs : List Value) (D : List (List Int)) : Prop := xs.length = D.length ∧ ∀ (k : Nat) (zs : List Int), D[k]? = some zs → checkNo zs = 0 ∧ ∃ x, xs[k]? = some x ∧ Nums w x zs
theorem Squares.nil (w : World) : Squares w [] [] := ⟨rfl, fun k zs h => by simp at h⟩
theorem Squares.snoc {w : World} {xs : List Value} {D : List (List Int)} {x : Value} {zs : List Int} (h : Squares w xs D) (hc : checkNo zs = 0) (hx : Nums w x zs) : Squares w (xs ++ [x]) (D ++ [zs]) := by
  refine ⟨by simp [h.1], fun k q hk => ?_⟩
  by_cases e : k < D.length
  · rw [List.getElem?_append_left e] at hk
    obtain ⟨h1, y, h2, h3⟩ := h.2 k q hk
    exact ⟨h1, y, by rw [List.getElem?_append_left (by rw [h.1]; exact e)]; exact h2, h3⟩
  · rw [List.getElem?_append_right (by omega)] at hk
    have hk0 : k - D.length = 0 := by
      have := (List.getElem?_eq_some_iff.1 hk).1
      simp at this
      omega
    rw [hk0] at hk
    have hq : zs = q := by simpa using hk
    subst hq
    refine ⟨hc, x, ?_, hx⟩
    rw [List.getElem?_append_right (by rw [h.1]; omega), h.1, hk0]
    rfl
theorem from_one {W : World} {g : Nat} {t : TypeId} {x : Value} (h : Blk W g t #[x]) : From W 1 (.slice (some ⟨g, 0, none⟩) 1 1) 1 [x] := ⟨_, _, rfl, rfl, fun _ => ⟨_, rfl, World.news_of_block h⟩⟩
theorem info_sl : (Tryd.prog.info? 57).map (fun i => (i.zero, i.size, i.bytes)) = some (some (.slice none 0 0), 1, 24) := by kernel_rfl
end Go.Proofs.YtkkgpdejmcpcpaaDoor
/- CoefBack: the walk. -/
namespace Go.Proofs.YtkkgpdejmcpcpaaDoor
open Go.RowKit

theorem noff_arg {w W : World} {x : Value} {l : List Int} {F : Nat → Prop} (hn : Nums w x l) (h0 : l ≠ []) (hb : Below w.heap.size w W) (hF : ∀ k, F k → w.heap.size ≤ k) : NOff x l W F := by
  have hn2 := hn.below hb
  obtain ⟨A, c, rfl, _, h3⟩ := hn
  obtain ⟨b, off, rfl, hlt, _⟩ := h3 h0
  have e : ∀ k, (Value.slice (some ⟨b, off, none⟩) l.length c).ownBlock = some k → k = b := fun k hk => by
    have : b = k := by simpa [Value.ownBlock] using hk
    exact this.symm
  exact ⟨hn2, fun k hk hFk => by have := e k hk; have := hF k hFk; omega, fun k hk => by have := e k hk; have := hb.size; omega⟩
end Go.Proofs.YtkkgpdejmcpcpaaDoor

/- SyntaxBack: the walk where the squares are not few. -/
namespace Go.Proofs.YtkkgpdejmcpcpaaDoor
open Go.RowKit

theorem els_below {w W : World} {x : Value} {l : List SqS} (h : Els w 13 (SquR w) x l) (hb : Below w.heap.size w W) : Els W 13 (SquR W) x l :=
  (h.below hb).mono (fun _ _ hR => hR.below hb)
set_option maxRecDepth 100000 in
set_option maxHeartbeats 16000000 in
theorem sback_few (x y : Value) (l : List SqS) (ks : List Bool) (j : SqS) (jm0 jm1 jm2 jm3 : Int) (JA JA0 JA1 JA2 JA3 : Option Addr) (jc jc0 jc1 jc2 jc3 : Nat) (jl0 jl1 jl2 jl3 : List Int) (w : World) (hx : Els w 13 (SquR w) x l) (hml : l.length ≤ maxLen) (hy : Els w 1 BoolR y ks) (_ : ks.length ≤ maxLen)
    (hj : SqLies w j (.slice JA j.large.length jc) (.slice JA0 jl0.length jc0) (.slice JA1 jl1.length jc1) (.slice JA2 jl2.length jc2) (.slice JA3 jl3.length jc3) jm0 jm1 jm2 jm3 jl0 jl1 jl2 jl3) (hg : ErrT w)
    (hbad : ¬ ((l.length ≤ 100 ∧ ∀ s ∈ l, weighN s ≤ 20000) ∧ weighN j ≤ 20000)) :
    Calls Tryd.prog 5 #[x, y, sqV j.kind j.mode jm0 jm1 jm2 jm3 j.x j.y (.slice JA j.large.length jc) (.slice JA0 jl0.length jc0) (.slice JA1 jl1.length jc1) (.slice JA2 jl2.length jc2) (.slice JA3 jl3.length jc3)] w fun e w' => e = .returned (.bool true) ∧ Below w.heap.size w w' := by
  obtain ⟨A, c, rfl, hc⟩ := hx.form
  obtain ⟨B, d, rfl, hd⟩ := Els.form hy
  have X := hid (And.intro hx hml)
  have HG := hid (And.intro hg hg.lt)
  have J := hid hj
  have hwj := hj.weigh
  have hb0 : Below w.heap.size w (w.alloc (.cells #[.int .i64 j.kind, .int .i64 j.mode, .int .i64 jm0, .int .i64 jm1, .int .i64 jm2, .int .i64 jm3, .int .i64 j.x, .int .i64 j.y, .slice JA j.large.length jc, .slice JA0 jl0.length jc0, .slice JA1 jl1.length jc1, .slice JA2 jl2.length jc2, .slice JA3 jl3.length jc3] 60)) := (Below.refl _ _).alloc (Nat.le_refl _) _
  have K0 := hid (And.intro hb0 (Blk.new w 60 #[.int .i64 j.kind, .int .i64 j.mode, .int .i64 jm0, .int .i64 jm1, .int .i64 jm2, .int .i64 jm3, .int .i64 j.x, .int .i64 j.y, .slice JA j.large.length jc, .slice JA0 jl0.length jc0, .slice JA1 jl1.length jc1, .slice JA2 jl2.length jc2, .slice JA3 jl3.length jc3]))
  have BAD := hid hbad
  have HWJ := hid hwj
  have HW := hid (fun W => weighs_any j.kind j.mode jm0 jm1 jm2 jm3 j.x j.y JA JA0 JA1 JA2 JA3 j.large.length jl0.length jl1.length jl2.length jl3.length jc jc0 jc1 jc2 jc3 W hj.nl.2 hj.n0.2 hj.n1.2 hj.n2.2 hj.n3.2)
  have hs5 := (sum5 (n0 := j.large.length) (n1 := jl0.length) (n2 := jl1.length) (n3 := jl2.length) (n4 := jl3.length)).1
  rw [← hwj] at HW hs5
  unfold sqV at HW ⊢
  generalize weighN j = tot at *
  clear hx hml hg hj hwj hb0 hbad hc hd hy HWJ
  go_enter Tryd.func5, Tryd.ntmps5
  go_wp2_with fail
  generalize (w.alloc _ : World) = w0 at *
  refine (first20 _ (by exact HG.out.1.below K0.out.1 HG.out.2)).mono ?_
  rintro e w1 ⟨rfl, h1⟩
  have B1 := hid (K0.out.1.trans (h1.mono K0.out.1.size))
  have K1 := hid (K0.out.2.below h1 K0.out.2.lt)
  clear h1
  go_wp2_with fail
  refine (new_wr _).mono ?_
  rintro e w2 ⟨b1, F1, rfl, ha1, hf1, hb1⟩
  have B2 := hid (B1.out.trans (hb1.mono B1.out.size))
  have K2 := hid (K1.out.below hb1 K1.out.lt)
  clear ha1 hf1 hb1
  go_wp2_with fail
  refine (fewsq_any _ l _ (els_below X.out.1 B2.out) X.out.2).mono ?_
  rintro e w3 ⟨q, rfl, hb3, hq⟩
  have B3 := hid (B2.out.trans (hb3.mono B2.out.size))
  have K3 := hid (K2.out.below hb3 K2.out.lt)
  have HQ := hid hq
  clear hb3 hq
  cases q with
  | false =>
    go_wp2_with fail
    refine (first20 _ (by exact HG.out.1.below B3.out HG.out.2)).mono ?_
    rintro e w4 ⟨rfl, hb4⟩
    have B4 := hid (B3.out.trans (hb4.mono B3.out.size))
    clear hb4
    go_wp2_with fail
    go_ret
    exact ⟨rfl, B4.out⟩
  | true =>
    have ht : 20000 < tot := by
      rcases Nat.lt_or_ge 20000 tot with h | h
      · exact h
      · exact absurd ⟨HQ.out rfl, h⟩ BAD.out
    have d0 : decide (20000 < tot) = true := decide_eq_true ht
    have d1 : decide ((20000 : Int) < (tot : Int)) = true := by simp; omega
    obtain ⟨⟨q0, q1⟩, ⟨q2, q3, q4, q5⟩, ⟨q6, q7, q8⟩, q9, q10, q11, q12⟩ := (SqBlk.of K3.out rfl).all4
    clear ht
    go_wp2_with fail
    refine (HW.out _).mono ?_
    rintro e w4 ⟨rfl, hb4⟩
    have B4 := hid (B3.out.trans (hb4.mono B3.out.size))
    clear hb4 q0 q1 q2 q3 q4 q5 q6 q7 q8 q9 q10 q11 q12
    go_wp2_with fail
    refine (first20 _ (by exact HG.out.1.below B4.out HG.out.2)).mono ?_
    rintro e w5 ⟨rfl, hb5⟩
    have B5 := hid (B4.out.trans (hb5.mono B4.out.size))
    clear hb5
    go_wp2_with fail
    go_ret
    exact ⟨rfl, B5.out⟩
end Go.Proofs.YtkkgpdejmcpcpaaDoor

/- SyntaxBack: what a square of the argument is to a writer; the row of those done. -/
namespace Go.Proofs.YtkkgpdejmcpcpaaDoor
open Go.RowKit

theorem noff_argS {w W : World} {x : Value} {l : List Int} {F : Nat → Prop} (hn : Nums w x l) (h0 : l ≠ []) (hb : Below w.heap.size w W) (hF : ∀ k, F k → w.heap.size ≤ k) : NOff x l W F := by
  have hn2 := hn.below hb
  obtain ⟨A, c, rfl, _, h3⟩ := hn
  obtain ⟨b, off, rfl, hlt, _⟩ := h3 h0
  have e : ∀ k, (Value.slice (some ⟨b, off, none⟩) l.length c).ownBlock = some k → k = b := fun k hk => by
    have : b = k := by simpa [Value.ownBlock] using hk
    exact this.symm
  exact ⟨hn2, fun k hk hFk => by have := e k hk; have := hF k hFk; omega, fun k hk => by have := e k hk; have := hb.size; omega⟩
section
variable {w W : World} {s : SqS} {lv v0 v1 v2 v3 : Value} {m0 m1 m2 m3 : Int} {l0 l1 l2 l3 : List Int} {F : Nat → Prop} {key : Bool}
theorem SqLies.arg (h : SqLies w s lv v0 v1 v2 v3 m0 m1 m2 m3 l0 l1 l2 l3) : SqArg w (sqV s.kind s.mode m0 m1 m2 m3 s.x s.y lv v0 v1 v2 v3) s m0 m1 m2 m3 lv v0 v1 v2 v3 l0 l1 l2 l3 :=
  ⟨⟨rfl, h.em⟩, h.es, h.nl.1, h.n0.1, h.n1.1, h.n2.1, h.n3.1⟩
theorem SqLies.four (h : SqLies w s lv v0 v1 v2 v3 m0 m1 m2 m3 l0 l1 l2 l3) : Four s := ⟨by rw [h.em]; rfl, by rw [h.es]; rfl⟩
/-- The lists that a writer takes lie off its blocks. -/
theorem SqLies.off (h : SqLies w s lv v0 v1 v2 v3 m0 m1 m2 m3 l0 l1 l2 l3) (hr : RightS key s) (hb : Below w.heap.size w W) (hF : ∀ k, F k → w.heap.size ≤ k) :
    (s.kind = 3 → ∀ p ∈ [(v0, l0), (v1, l1), (v2, l2), (v3, l3)], NOff p.1 p.2 W F) ∧ (s.kind = 1 ∨ s.kind = 2 → NOff lv s.large W F) := by
  refine ⟨fun e p hp => ?_, fun e => noff_argS h.nl.1 (fun k => ?_) hb hF⟩
  · have h3 := (hr.three e).2
    rw [h.es] at h3
    have hne : ∀ l ∈ [l0, l1, l2, l3], l ≠ [] := fun l hl k => by have := (h3 l hl).1; rw [k] at this; exact absurd this (by decide)
    simp only [List.mem_cons, List.not_mem_nil, or_false] at hp
    rcases hp with rfl | rfl | rfl | rfl
    · exact noff_argS h.n0.1 (hne l0 (by simp)) hb hF
    · exact noff_argS h.n1.1 (hne l1 (by simp)) hb hF
    · exact noff_argS h.n2.1 (hne l2 (by simp)) hb hF
    · exact noff_argS h.n3.1 (hne l3 (by simp)) hb hF
  · have := (hr.large e).1
    rw [k] at this
    exact absurd this (by decide)
end
def keyAt (ks : List Bool) (i : Nat) : Bool := decide (i < ks.length) && ks.getD i false
/-- The squares done, and where they are. -/
def DoneSq (l : List SqS) (ks : List Bool) (is : List Nat) (D : List (Bool × SqS)) : Prop :=
  is.length = D.length ∧ ∀ (k : Nat) (key : Bool) (s : SqS), D[k]? = some (key, s) → RightS key s ∧ ∃ i, is[k]? = some i ∧ l[i]? = some s ∧ key = keyAt ks i
theorem DoneSq.nil (l : List SqS) (ks : List Bool) : DoneSq l ks [] [] := ⟨rfl, fun k key s h => by simp at h⟩
theorem DoneSq.snoc {l : List SqS} {ks : List Bool} {is : List Nat} {D : List (Bool × SqS)} (h : DoneSq l ks is D) {i : Nat} {s : SqS} (hi : l[i]? = some s) (hr : RightS (keyAt ks i) s) : DoneSq l ks (is ++ [i]) (D ++ [(keyAt ks i, s)]) := by
  refine ⟨by simp [h.1], fun k key q hk => ?_⟩
  by_cases e : k < D.length
  · rw [List.getElem?_append_left e] at hk
    obtain ⟨h1, y, h2, h3⟩ := h.2 k key q hk
    exact ⟨h1, y, by rw [List.getElem?_append_left (by rw [h.1]; exact e)]; exact h2, h3⟩
  · rw [List.getElem?_append_right (by omega)] at hk
    have hk0 : k - D.length = 0 := by
      have := (List.getElem?_eq_some_iff.1 hk).1
      simp at this
      omega
    rw [hk0] at hk
    have hq : (keyAt ks i, s) = (key, q) := by simpa using hk
    injection hq with h1 h2
    subst h1 h2
    refine ⟨hr, i, ?_, hi, rfl⟩
    rw [List.getElem?_append_right (by rw [h.1]; omega), h.1, hk0]
    rfl
end Go.Proofs.YtkkgpdejmcpcpaaDoor

/- SyntaxBack: what a coder tells of a square that may be coded; its parts, and Same of both. -/
namespace Go.Proofs.YtkkgpdejmcpcpaaDoor
open Go.RowKit

theorem RightS.kinds {key : Bool} {s : SqS} (h : RightS key s) : s.kind = 0 ∨ s.kind = 1 ∨ s.kind = 2 ∨ s.kind = 3 := by have := h.k0; have := h.k3; omega
theorem parts_len {key : Bool} {s : SqS} (h : RightS key s) : (partsS s).large.length ≤ 64 ∧ ∀ l ∈ (partsS s).small, l.length ≤ 16 := by
  have hs4 : ∀ l ∈ ([[], [], [], []] : List (List Int)), l.length ≤ 16 := by decide
  unfold partsS
  rcases h.kinds with e | e | e | e
  · rw [e]
    exact ⟨by show (0 : Nat) ≤ 64; omega, hs4⟩
  · rw [e]
    exact ⟨by show s.large.length ≤ 64; rw [(h.large (.inl e)).1]; omega, hs4⟩
  · rw [e]
    exact ⟨by show s.large.length ≤ 64; rw [(h.large (.inr e)).1]; omega, hs4⟩
  · rw [e]
    exact ⟨by show (0 : Nat) ≤ 64; omega, fun l hl => by rw [((h.three e).2 l hl).1]; omega⟩
theorem Own1.nums {w W : World} {v : Value} {l : List Int} (h : Own1 w W v l) : Nums W v l := by
  obtain ⟨g, cap, _, _, h3⟩ := h
  exact h3.n
/-- A square told. -/
def Told20 (W : World) (q : SqS) (p0 p1 p2 p3 : Int) (v0 v1 v2 v3 v4 : Value) (j0 j1 j2 j3 : List Int) : Prop :=
  q.modes = [p0, p1, p2, p3] ∧ q.small = [j0, j1, j2, j3] ∧ ∀ p ∈ [(v0, q.large), (v1, j0), (v2, j1), (v3, j2), (v4, j3)], Nums W p.1 p.2
theorem Told20.below {W W' : World} {q : SqS} {p0 p1 p2 p3 : Int} {v0 v1 v2 v3 v4 : Value} {j0 j1 j2 j3 : List Int} (h : Told20 W q p0 p1 p2 p3 v0 v1 v2 v3 v4 j0 j1 j2 j3) (hb : Below W.heap.size W W') : Told20 W' q p0 p1 p2 p3 v0 v1 v2 v3 v4 j0 j1 j2 j3 :=
  ⟨h.1, h.2.1, fun p hp => (h.2.2 p hp).below hb⟩
/-- The answer of a coder that tells a square. -/
def TellE (e : Ending) (W : World) (q : SqS) : Prop :=
  ∃ (B0 B1 B2 B3 B4 : Option Addr) (k0 k1 k2 k3 k4 : Nat) (p0 p1 p2 p3 : Int) (j0 j1 j2 j3 : List Int), e = .returned (.tuple #[sqV q.kind q.mode p0 p1 p2 p3 q.x q.y (.slice B0 k0 k0) (.slice B1 k1 k1) (.slice B2 k2 k2) (.slice B3 k3 k3) (.slice B4 k4 k4), .nilIface]) ∧ Told20 W q p0 p1 p2 p3 (.slice B0 k0 k0) (.slice B1 k1 k1) (.slice B2 k2 k2) (.slice B3 k3 k3) (.slice B4 k4 k4) j0 j1 j2 j3
theorem tell_of {w0 W : World} {F : Nat → Prop} {v : Value} {q : SqS} (h : SqVal w0 W F v q) : TellE (.returned (.tuple #[v, .nilIface])) W q := by
  obtain ⟨p0, p1, p2, p3, lv', v0', v1', v2', v3', j0, j1, j2, j3, rfl, hqm, hqs, z0, z1, z2, z3, z4⟩ := h
  obtain ⟨B0, k0', rfl⟩ := lst_form z0
  obtain ⟨B1, k1', rfl⟩ := lst_form z1
  obtain ⟨B2, k2', rfl⟩ := lst_form z2
  obtain ⟨B3, k3', rfl⟩ := lst_form z3
  obtain ⟨B4, k4', rfl⟩ := lst_form z4
  refine ⟨B0, B1, B2, B3, B4, k0', k1', k2', k3', k4', p0, p1, p2, p3, j0, j1, j2, j3, rfl, hqm, hqs, fun p hp => ?_⟩
  simp only [List.mem_cons, List.not_mem_nil, or_false] at hp
  rcases hp with rfl | rfl | rfl | rfl | rfl
  · exact z0.nums
  · exact z1.nums
  · exact z2.nums
  · exact z3.nums
  · exact z4.nums
/-- A writer takes a square that may be coded. -/
theorem wdone (b1 : Nat) {w0 W : World} {v : Value} {n : Nat} {xs : List Value} {D : List (Bool × SqS)} {F : Nat → Prop} {m : Nat} {key : Bool} {s : SqS} {lv v0 v1 v2 v3 : Value} {m0 m1 m2 m3 : Int} {l0 l1 l2 l3 : List Int}
    (hs : SqLies w0 s lv v0 v1 v2 v3 m0 m1 m2 m3 l0 l1 l2 l3) (hv : askNo key s = 0) (hW : DoneAt (AtWr b1) 3 v n xs w0 (sqW D) W F) (hok : (sqW D).Ok m) (hm : m + 100000 ≤ 1000000000) :
    Calls Tryd.prog 19 #[.iface 52 (.pointer (some ⟨b1, 0, none⟩)), .bool key, sqV s.kind s.mode m0 m1 m2 m3 s.x s.y lv v0 v1 v2 v3] W fun e w' => ∃ F', DoneAt (AtWr b1) 3 v n xs w0 (sqW (D ++ [(key, s)])) w' F' ∧ TellE e w' (partsS s) := by
  have hr := right_of hv
  have ho := hs.off hr hW.c.bel hW.c.lo
  refine (wcode20 b1 key _ s m0 m1 m2 m3 lv v0 v1 v2 v3 l0 l1 l2 l3 (sqW D) W F m (hs.below hW.c.bel).arg hW.c.a hok hm hv ho.1 ho.2).mono ?_
  rintro e w' ⟨F', hcw, hans⟩
  have es : (wrM.run (codeA key s) (sqW D)).2 = sqW (D ++ [(key, s)]) := by rw [sqW_snoc, fix_run echo_wr hr]
  rw [es] at hcw
  rw [echo_told echo_wr hr hs.four (sqW D)] at hans
  obtain ⟨v', rfl, hv'⟩ := hans
  exact ⟨F', hW.code hcw, tell_of hv'⟩
theorem wdone_ok {D : List (Bool × SqS)} {m : Nat} {key : Bool} {s : SqS} (hv : askNo key s = 0) (h4 : Four s) (b1 : Nat) (hok : (sqW D).Ok m) : ∃ m', m' ≤ m + 9000 ∧ (sqW (D ++ [(key, s)])).Ok m' := by
  obtain ⟨m', h1, h2⟩ := ok_code20 (wr_coder b1) key s (by rw [h4.1]; omega) (sqW D) m hok
  refine ⟨m', h1, ?_⟩
  rw [sqW_snoc, fix_run echo_wr (right_of hv)]
  exact h2
/-- A reader tells the next square, whatever it is handed. -/
theorem rdone (db : Nat) {w0 W : World} {v : Value} {n : Nat} {xs : List Value} {D : List (Bool × SqS)} {k : Nat} {F : Nat → Prop} {m : Nat} {key : Bool} {s j : SqS} {t : Rd} {lv v0 v1 v2 v3 : Value} {m0 m1 m2 m3 : Int} {l0 l1 l2 l3 : List Int}
    (hz : D[k]? = some (key, s)) (hr : RightS key s) (h4 : Four s) (htr : Tr (sqW D).e (sqW (D.take k)) t) (hn : SqArg W (sqV j.kind j.mode m0 m1 m2 m3 j.x j.y lv v0 v1 v2 v3) j m0 m1 m2 m3 lv v0 v1 v2 v3 l0 l1 l2 l3) (hW : DoneAt (AtRd db) 3 v n xs w0 t W F) (hok : t.Ok m) (hm : m + 100000 ≤ 1000000000) :
    Calls Tryd.prog 19 #[.iface 50 (.pointer (some ⟨db, 0, none⟩)), .bool key, sqV j.kind j.mode m0 m1 m2 m3 j.x j.y lv v0 v1 v2 v3] W fun e w' => ∃ F' t' m', DoneAt (AtRd db) 3 v n xs w0 t' w' F' ∧ Tr (sqW D).e (sqW (D.take (k + 1))) t' ∧ (m' ≤ m + 9000 ∧ t'.Ok m') ∧ TellE e w' (partsS s) := by
  refine (rcode20 db key _ j m0 m1 m2 m3 lv v0 v1 v2 v3 l0 l1 l2 l3 t W F m hn hW.c.a hok hm).mono ?_
  rintro e w' ⟨F', hcw, hans⟩
  obtain ⟨hb1, hb2⟩ := back_S D k key s hz hr h4 t htr
  obtain ⟨m', h1, h2⟩ := ok_code20 (rd_coder db) key zeroS (by decide) t m hok
  rw [hb1] at hans
  obtain ⟨v', rfl, hv'⟩ := hans
  exact ⟨F', _, m', hW.code hcw, hb2, ⟨h1, h2⟩, tell_of hv'⟩
/-- The parts of a square of the argument, and Same of them and what was told. -/
theorem parts_same {w0 : World} {key : Bool} {s : SqS} {A0 A1 A2 A3 A4 : Option Addr} {c0 c1 c2 c3 c4 : Nat} {m0 m1 m2 m3 : Int} {l0 l1 l2 l3 : List Int}
    (hs : SqLies w0 s (.slice A0 s.large.length c0) (.slice A1 l0.length c1) (.slice A2 l1.length c2) (.slice A3 l2.length c3) (.slice A4 l3.length c4) m0 m1 m2 m3 l0 l1 l2 l3) (hr : RightS key s) :
    ∃ n0 n1 n2 n3 lu u0 u1 u2 u3, (∀ W, Calls Tryd.prog 21 #[sqV s.kind s.mode m0 m1 m2 m3 s.x s.y (.slice A0 s.large.length c0) (.slice A1 l0.length c1) (.slice A2 l1.length c2) (.slice A3 l2.length c3) (.slice A4 l3.length c4)] W fun e w' => e = .returned (sqV (partsS s).kind (partsS s).mode n0 n1 n2 n3 (partsS s).x (partsS s).y lu u0 u1 u2 u3) ∧ Below W.heap.size W w') ∧
      ∀ W p0 p1 p2 p3 v0 v1 v2 v3 v4 j0 j1 j2 j3, Below w0.heap.size w0 W → Told20 W (partsS s) p0 p1 p2 p3 v0 v1 v2 v3 v4 j0 j1 j2 j3 → Calls Tryd.prog 20 #[sqV (partsS s).kind (partsS s).mode p0 p1 p2 p3 (partsS s).x (partsS s).y v0 v1 v2 v3 v4, sqV (partsS s).kind (partsS s).mode n0 n1 n2 n3 (partsS s).x (partsS s).y lu u0 u1 u2 u3] W fun e w' => e = .returned (.bool true) ∧ Below W.heap.size W w' := by
  obtain ⟨n0, n1, n2, n3, lu, u0, u1, u2, u3, q0, q1, q2, q3, hpv, hpm, hps, hpn⟩ := parts_num w0 s m0 m1 m2 m3 _ _ _ _ _ l0 l1 l2 l3 hs.em hs.es (by
    intro p hp
    simp only [List.mem_cons, List.not_mem_nil, or_false] at hp
    rcases hp with rfl | rfl | rfl | rfl | rfl
    · exact hs.nl.1
    · exact hs.n0.1
    · exact hs.n1.1
    · exact hs.n2.1
    · exact hs.n3.1) hr.kinds
  refine ⟨n0, n1, n2, n3, lu, u0, u1, u2, u3, fun W => ?_, fun W p0 p1 p2 p3 v0 v1 v2 v3 v4 j0 j1 j2 j3 hb ht => ?_⟩
  · have h := parts20 s.kind s.mode m0 m1 m2 m3 s.x s.y A0 A1 A2 A3 A4 s.large.length l0.length l1.length l2.length l3.length c0 c1 c2 c3 c4 W hr.kinds
    rw [hpv] at h
    exact h
  · obtain ⟨hqm, hqs, hn⟩ := ht
    obtain ⟨rfl, rfl, rfl, rfl⟩ : n0 = p0 ∧ n1 = p1 ∧ n2 = p2 ∧ n3 = p3 := by simpa using hpm.symm.trans hqm
    obtain ⟨rfl, rfl, rfl, rfl⟩ : q0 = j0 ∧ q1 = j1 ∧ q2 = j2 ∧ q3 = j3 := by simpa using hps.symm.trans hqs
    have hl := parts_len hr
    refine same_any (partsS s).kind (partsS s).mode n0 n1 n2 n3 (partsS s).x (partsS s).y v0 v1 v2 v3 v4 lu u0 u1 u2 u3 (partsS s).large q0 q1 q2 q3 W (fun p hp => ?_) (fun l hl' => ?_)
    · simp only [List.mem_cons, List.not_mem_nil, or_false] at hp
      rcases hp with rfl | rfl | rfl | rfl | rfl | rfl | rfl | rfl | rfl | rfl
      · exact hn (v0, (partsS s).large) (by simp)
      · exact hn (v1, q0) (by simp)
      · exact hn (v2, q1) (by simp)
      · exact hn (v3, q2) (by simp)
      · exact hn (v4, q3) (by simp)
      · exact (hpn (lu, (partsS s).large) (by simp)).below hb
      · exact (hpn (u0, q0) (by simp)).below hb
      · exact (hpn (u1, q1) (by simp)).below hb
      · exact (hpn (u2, q2) (by simp)).below hb
      · exact (hpn (u3, q3) (by simp)).below hb
    · rcases List.mem_cons.1 hl' with rfl | hl'
      · omega
      · have := hl.2 l (by rw [hps]; exact hl')
        omega
end Go.Proofs.YtkkgpdejmcpcpaaDoor

