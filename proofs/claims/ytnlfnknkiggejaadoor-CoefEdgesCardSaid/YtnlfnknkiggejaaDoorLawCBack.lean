/- CoefBack: plain; the walk. -/
import Derived.Test.YtnlfnknkiggejaaDoorOwnC
import Derived.Test.YtnlfnknkiggejaaDoorFew
import Derived.Deep.RegionHeld3
import Derived.Lib.MinMax
/- CoefBack, plain: squares coded one behind the other come back; and a coder with a row of one's own. -/
namespace Go.Proofs.YtnlfnknkiggejaaDoor
open Go.RowKit

def sdL (zs : List Int) : Nat := if zs.length = 16 then 4 else 8
def baseL (zs : List Int) : Nat := if zs.length = 16 then 14 else 39
theorem sized_L {zs : List Int} (h : checkNo zs = 0) : Sized zs (sdL zs) (baseL zs) ∧ zs.any lvOut = false := by
  unfold checkNo at h
  by_cases h1 : zs.length ≠ 16 ∧ zs.length ≠ 64
  · rw [if_pos h1] at h; omega
  · rw [if_neg h1] at h
    have h2 : zs.any lvOut = false := by
      cases hq : zs.any lvOut
      · rfl
      · rw [hq] at h; exact absurd h (by decide)
    refine ⟨?_, h2⟩
    unfold sdL baseL
    by_cases h3 : zs.length = 16
    · rw [if_pos h3, if_pos h3]; exact .inl ⟨rfl, rfl, h3⟩
    · rw [if_neg h3, if_neg h3]; exact .inr ⟨rfl, rfl, by omega⟩
theorem sized_len {zs l : List Int} {sd base : Nat} (h : Sized zs sd base) (hl : l.length = zs.length) : Sized l sd base := by
  unfold Sized at h ⊢
  rw [hl]
  exact h
def sqL (zs : List Int) : Ask SqR := squareA (baseL zs) (ordOf (sdL zs)) zs
theorem ctx_L (zs l : List Int) : (squareA (baseL zs) (ordOf (sdL zs)) l).Ctx := ctx_square _ (by unfold baseL; split <;> omega) _ _
/-- The writer behind these squares. -/
def wsq (D : List (List Int)) : Wr := D.foldl (fun s zs => (wrM.run (sqL zs) s).2) Wr.new
theorem wsq_nil : wsq [] = Wr.new := rfl
theorem wsq_snoc (D : List (List Int)) (zs : List Int) : wsq (D ++ [zs]) = (wrM.run (sqL zs) (wsq D)).2 := by
  unfold wsq
  rw [List.foldl_append]
  rfl
theorem bk_L {f : Enc} (hf : 1 ≤ f.r) (zs l : List Int) (hl : l.length = zs.length) (s : Wr) (t : Rd) : Bk f s t (wrM.run (sqL zs) s) (rdM.run (squareA (baseL zs) (ordOf (sdL zs)) l) t) :=
  Bk.run hf _ _ (ctx_L zs zs) (shape_square _ _ _ _ hl.symm) s t
theorem good_step (zs : List Int) (s : Wr) (h : GoodW s) : Inside s.e (wrM.run (sqL zs) s).2.e ∧ GoodW (wrM.run (sqL zs) s).2 := by
  have h1 := bk_L (f := ⟨[], 0, 1⟩) (by show 1 ≤ 1; omega) zs zs rfl s (Rd.new []) h
  exact ⟨h1.1, h1.2.1⟩
theorem good_from : ∀ (D : List (List Int)) (s : Wr), GoodW s → GoodW (D.foldl (fun s zs => (wrM.run (sqL zs) s).2) s) ∧ Inside s.e (D.foldl (fun s zs => (wrM.run (sqL zs) s).2) s).e
  | [], s, h => ⟨h, Inside.refl _⟩
  | zs :: D, s, h => by
    have h1 := good_step zs s h
    have h2 := good_from D _ h1.2
    exact ⟨h2.1, h1.1.trans h2.2⟩
theorem good_new : GoodW Wr.new := ⟨pok_first, by show 16777216 ≤ 4294967295; omega, by show 4294967295 ≤ 4294967295; omega, fit_new⟩
theorem good_wsq (D : List (List Int)) : GoodW (wsq D) := (good_from D Wr.new good_new).1
theorem in_wsq (D : List (List Int)) (k : Nat) : Inside (wsq (D.take k)).e (wsq D).e := by
  have h := (good_from (D.drop k) (wsq (D.take k)) (good_wsq _)).2
  have e : (D.drop k).foldl (fun s zs => (wrM.run (sqL zs) s).2) (wsq (D.take k)) = wsq D := by
    unfold wsq
    rw [← List.foldl_append, List.take_append_drop]
  rw [e] at h
  exact h
/-- A reader of the bytes tells the next square. -/
theorem back_sq (D : List (List Int)) (k : Nat) (zs : List Int) (hz : D[k]? = some zs) (hc : checkNo zs = 0) (t : Rd) (ht : Tr (wsq D).e (wsq (D.take k)) t) (l : List Int) (hl : l.length = zs.length) :
    (rdM.run (squareA (baseL zs) (ordOf (sdL zs)) l) t).1 = (none, zs) ∧ Tr (wsq D).e (wsq (D.take (k + 1))) (rdM.run (squareA (baseL zs) (ordOf (sdL zs)) l) t).2 := by
  have hf : 1 ≤ (wsq D).e.r := by have := (good_wsq D).r0; omega
  have hk := (List.getElem?_eq_some_iff.1 hz).1
  have ek : D.take (k + 1) = D.take k ++ [zs] := by
    rw [List.take_add_one, hz]
    rfl
  have es : wsq (D.take (k + 1)) = (wrM.run (sqL zs) (wsq (D.take k))).2 := by rw [ek, wsq_snoc]
  have hin := in_wsq D (k + 1)
  rw [es] at hin ⊢
  have h := (bk_L hf zs l hl (wsq (D.take k)) t (good_wsq _)).2.2 ht hin
  obtain ⟨hsd, hv⟩ := sized_L hc
  obtain ⟨ho, _, hn⟩ := ord_sized hsd
  have e1 : (wrM.run (sqL zs) (wsq (D.take k))).1 = (none, zs) := by
    rw [echo_wr.run]
    refine say_square _ _ zs ho ?_ hn
    intro v hvm
    apply lvOut_false
    rw [Bool.eq_false_iff]
    intro h2
    have := List.any_eq_true.2 ⟨v, hvm, h2⟩
    rw [hv] at this
    exact Bool.noConfusion this
  exact ⟨by rw [← h.1, e1], h.2⟩
theorem back_tr (D : List (List Int)) : Tr (wsq D).e (wsq (D.take 0)) (Rd.new (wsq D).e.bytes) := ⟨rfl, Track.new _⟩
/-- A number between -9 and 9. -/
theorem small_in {l : List Int} (h : ∀ v ∈ l, -9 ≤ v ∧ v ≤ 9) : l.any lvOut = false := by
  rw [Bool.eq_false_iff]
  intro h2
  obtain ⟨v, hv, hp⟩ := List.any_eq_true.1 h2
  have := h v hv
  rw [lvOut_true (by omega) (by omega)] at hp
  exact Bool.noConfusion hp

/-! ### A coder and a row of slices -/
theorem row_farC {w w' : World} {base n : Nat} {t : TypeId} {v : Value} {xs : List Value} {S : Nat → Prop} (h : w.ownsRow base t 1 v n xs) (ho : Only S w w') (hv : ∀ k, v.ownBlock = some k → ¬ S k) : w'.ownsRow base t 1 v n xs := by
  refine ⟨h.1, ?_⟩
  rcases h.2 with hn | ⟨g, cap, cur, hv', hb, hg, hr⟩
  · exact .inl hn
  · refine .inr ⟨g, cap, cur, hv', hb, ?_, hr⟩
    have hlt := (Array.getElem?_eq_some_iff.1 hg).1
    rw [ho.block g hlt (hv g (by rw [hv']; rfl))]
    exact hg
section
variable {σ : Type} {M : Mach σ} {fB fF : FuncId} {me : Value} {At : World → (Nat → Prop) → σ → Prop} {Ok : σ → Nat → Prop} {w W W' : World} {s s' : σ} {F F' : Nat → Prop} {ty : TypeId} {v : Value} {n : Nat} {xs : List Value}
structure DoneAt (At : World → (Nat → Prop) → σ → Prop) (ty : TypeId) (v : Value) (n : Nat) (xs : List Value) (w : World) (s : σ) (W : World) (F : Nat → Prop) : Prop where
  c : OwnC At w s W F
  own : W.ownsRow w.heap.size ty 1 v n xs
  far : ∀ k, v.ownBlock = some k → ¬ F k
theorem DoneAt.below (H : IsCoder M fB fF me At Ok) (h : DoneAt At ty v n xs w s W F) (hb : Below W.heap.size W W') : DoneAt At ty v n xs w s W' F :=
  ⟨h.c.below H hb, row_farC h.own (Only.of_below (S := fun _ => False) hb) (fun _ _ h => h), h.far⟩
theorem DoneAt.code (h : DoneAt At ty v n xs w s W F) (c : CW At W F s' W' F') : DoneAt At ty v n xs w s' W' F' :=
  ⟨h.c.code c, row_farC h.own c.o h.far, fun k hk hF => by
    rcases c.f k hF with h1 | h1
    · exact h.far k hk h1
    · have := (h.own.lt k hk).2; omega⟩
theorem DoneAt.only {S : Nat → Prop} (H : IsCoder M fB fF me At Ok) (h : DoneAt At ty v n xs w s W F) (o : Only S W W') (hF : ∀ k, F k → ¬ S k) (hv : ∀ k, v.ownBlock = some k → ¬ S k) (hw : ∀ k, S k → w.heap.size ≤ k) : DoneAt At ty v n xs w s W' F :=
  ⟨⟨H.keep _ _ _ _ _ h.c.a o hF, h.c.lo, h.c.bel.trans ⟨o.os, o.tape, o.output, o.size, fun k hk => o.block k (by have := h.c.bel.size; omega) (fun e => by have := hw k e; omega)⟩⟩, row_farC h.own o hv, h.far⟩
theorem DoneAt.grown (H : IsCoder M fB fF me At Ok) (h : DoneAt At ty v n xs w s W F) {g cap n' : Nat} {xs' : List Value} (hg : W.grownBy W' v.ownBlock) (ho : W'.ownsRow w.heap.size ty 1 (.slice (some ⟨g, 0, none⟩) n' cap) n' xs') (hat : v.ownBlock = some g ∨ g = W.heap.size) :
    DoneAt At ty (.slice (some ⟨g, 0, none⟩) n' cap) n' xs' w s W' F := by
  have o : Only (fun k => v.ownBlock = some k) W W' := ⟨hg.os, hg.tape, hg.output, hg.size, fun k hk hn => hg.block k hk (fun e => hn e.symm)⟩
  refine ⟨⟨H.keep _ _ _ _ _ h.c.a o (fun k hk hv => h.far k hv hk), h.c.lo, h.c.bel.trans ⟨o.os, o.tape, o.output, o.size, fun k hk => o.block k (by have := h.c.bel.size; omega) (fun e => by have := (h.own.lt k e).1; omega)⟩⟩, ho, fun k hk hF => ?_⟩
  simp [Value.ownBlock] at hk
  subst hk
  rcases hat with e | e
  · exact h.far _ e hF
  · have := H.there _ _ _ _ h.c.a hF; omega
end
/-- The slices read as these squares, all of them such as may be coded. -/
def Squares (w : World) (xs : List Value) (D : List (List Int)) : Prop := xs.length = D.length ∧ ∀ (k : Nat) (zs : List Int), D[k]? = some zs → checkNo zs = 0 ∧ ∃ x, xs[k]? = some x ∧ Nums w x zs
theorem Squares.nil (w : World) : Squares w [] [] := ⟨rfl, fun k zs h => by simp at h⟩
theorem Squares.snoc {w : World} {xs : List Value} {D : List (List Int)} {x : Value} {zs : List Int} (h : Squares w xs D) (hc : checkNo zs = 0) (hx : Nums w x zs) : Squares w (xs ++ [x]) (D ++ [zs]) := by
  refine ⟨by simp [h.1], fun k q hk => ?_⟩
  by_cases e : k < D.length
  · rw [List.getElem?_append_left e] at hk
    obtain ⟨h1, y, h2, h3⟩ := h.2 k q hk
    exact ⟨h1, y, by rw [List.getElem?_append_left (by rw [h.1]; exact e)]; exact h2, h3⟩
  · rw [List.getElem?_append_right (by omega)] at hk
    have hk0 : k - D.length = 0 := by
      have := (List.getElem?_eq_some_iff.1 hk).1
      simp at this
      omega
    rw [hk0] at hk
    have hq : zs = q := by simpa using hk
    subst hq
    refine ⟨hc, x, ?_, hx⟩
    rw [List.getElem?_append_right (by rw [h.1]; omega), h.1, hk0]
    rfl
theorem from_one {W : World} {g : Nat} {t : TypeId} {x : Value} (h : Blk W g t #[x]) : From W 1 (.slice (some ⟨g, 0, none⟩) 1 1) 1 [x] := ⟨_, _, rfl, rfl, fun _ => ⟨_, rfl, World.news_of_block h⟩⟩
theorem info_sl : (Tryd.prog.info? 29).map (fun i => (i.zero, i.size, i.bytes)) = some (some (.slice none 0 0), 1, 24) := by kernel_rfl
end Go.Proofs.YtnlfnknkiggejaaDoor
/- CoefBack: the walk. -/
namespace Go.Proofs.YtnlfnknkiggejaaDoor
open Go.RowKit

theorem noff_arg {w W : World} {x : Value} {l : List Int} {F : Nat → Prop} (hn : Nums w x l) (h0 : l ≠ []) (hb : Below w.heap.size w W) (hF : ∀ k, F k → w.heap.size ≤ k) : NOff x l W F := by
  have hn2 := hn.below hb
  obtain ⟨A, c, rfl, _, h3⟩ := hn
  obtain ⟨b, off, rfl, hlt, _⟩ := h3 h0
  have e : ∀ k, (Value.slice (some ⟨b, off, none⟩) l.length c).ownBlock = some k → k = b := fun k hk => by
    have : b = k := by simpa [Value.ownBlock] using hk
    exact this.symm
  exact ⟨hn2, fun k hk hFk => by have := e k hk; have := hF k hFk; omega, fun k hk => by have := e k hk; have := hb.size; omega⟩
set_option maxRecDepth 100000 in
set_option maxHeartbeats 1000000 in
theorem cback_walk (x : Value) (l : List (List Int)) (v : Int) (w : World) (hx : Els w 1 (IntsR w) x l) (hml : l.length ≤ maxLen) (_ : (Lit.int .i64 v).wf = true) (hg : ErrT w) :
    Calls Tryd.prog 4 #[x, .int .i64 v] w fun e w' => e = .returned (.bool true) ∧ Below w.heap.size w w' := by
  obtain ⟨i0, hi0, hz0, hz1, hz2⟩ := info_parts info_sl
  have IP := hid (And.intro hi0 (And.intro hz0 (And.intro hz1 hz2)))
  clear hi0 hz0 hz1 hz2
  obtain ⟨A, c, rfl, hc⟩ := hx.form
  have HG := hid (And.intro hg hg.lt)
  have X := hid (And.intro hx hml)
  clear hg hx hc hml
  go_enter Tryd.func4, Tryd.ntmps4
  go_wp2_with fail
  refine (first14 _ HG.out.1).mono ?_
  rintro e w1 ⟨rfl, h1⟩
  have B1 := hid h1
  clear h1
  go_wp2_with fail
  refine (new_wr _).mono ?_
  rintro e w2 ⟨b1, F1, rfl, ha1, hf1, hb1⟩
  have O2 := hid (show OwnC (AtWr b1) w Wr.new w2 F1 from ⟨ha1, fun k hk => Nat.le_trans B1.out.size (hf1 k hk), B1.out.trans (hb1.mono B1.out.size)⟩)
  clear ha1 hf1 hb1
  go_wp2_with fail
  refine (few_any _ l _ (by
    have h := X.out.1.below O2.out.bel
    exact h.mono (fun a cs hR => by
      obtain ⟨v, h1, h2, h3⟩ := hR
      exact ⟨v, h1, h2.below O2.out.bel, h3⟩)) X.out.2).mono ?_
  rintro e w3 ⟨q, rfl, rfl, hq⟩
  have HQ := hid hq
  clear hq
  cases q with
  | false =>
    go_wp2_with fail
    refine (first14 _ (by exact HG.out.1.below O2.out.bel HG.out.2)).mono ?_
    rintro e w4 ⟨rfl, hb4⟩
    have B4 := hid (O2.out.bel.trans (hb4.mono O2.out.bel.size))
    clear hb4
    go_wp2_with fail
    go_ret
    exact ⟨rfl, B4.out⟩
  | true =>
    have HL := hid (HQ.out rfl)
    clear HQ
    have D2 := hid (show DoneAt (AtWr b1) 29 (.slice none 0 0) 0 [] w (wsq []) w3 F1 from ⟨O2.out, World.ownsRow_nil _ _ _ _, fun k hk => by simp [Value.ownBlock] at hk⟩)
    go_wp2_with fail
    go_loopg [6, 7] l.length (fun k dv iv wr => ∃ (i : Nat) (Ad : Option Addr) (cd : Nat) (D : List (List Int)) (xs : List Value) (F : Nat → Prop) (m : Nat), i + k = l.length ∧ iv = .int .i64 i ∧ dv = .slice Ad D.length cd ∧ DoneAt (AtWr b1) 29 (.slice Ad D.length cd) D.length xs w (wsq D) wr F ∧ Squares w xs D ∧ (D.length ≤ i ∧ m ≤ 8300 * i) ∧ (wsq D).Ok m)
    case atStart => exact ⟨0, none, 0, [], [], F1, 0, by omega, rfl, rfl, D2.out, Squares.nil w, ⟨by simp, by omega⟩, ok_wr_new⟩
    case round =>
      clear O2 D2
      obtain ⟨i, Ad, cd, D, xs, F, m, hik, rfl, rfl, hown, hsq, ⟨hDi, hm⟩, hok⟩ := hrel
      have O := hid (And.intro hown (And.intro hsq hok))
      have hl200 := HL.out.1
      by_cases hlt : i < l.length
      · have h9 : decide (i < l.length) = true := decide_eq_true hlt
        have e1 : decide ((i : Int) < (l.length : Int)) = true := by simp; omega
        obtain ⟨zs, hz⟩ : ∃ zs, l[i]? = some zs := ⟨l[i], List.getElem?_eq_getElem hlt⟩
        obtain ⟨b4, o4, A4, c4, rfl, hb4, hcell, hnz, _⟩ := ints_at X.out.1 hz
        have hzl := HL.out.2 zs (List.mem_of_getElem? hz)
        have f0 := (hown.c.bel.cell (p := ⟨b4, o4 + i, none⟩) hb4).trans hcell
        have k0 : (0 : Int) ≤ (i : Int) := by omega
        have k1 : (i : Int) < (l.length : Int) := by omega
        have HI := hid (And.intro hik hlt)
        have C0 := hid (And.intro hcell (And.intro hb4 hnz))
        clear hown hsq hok hz hcell hb4 hnz hik hlt
        by_cases hv : checkNo zs = 0
        · have V := hid (And.intro hv (sized_L hv))
          have hne : zs ≠ [] := by
            rintro rfl
            rcases V.out.2.1 with ⟨_, _, h⟩ | ⟨_, _, h⟩ <;> exact absurd h (by decide)
          have hon := hid (noff_arg C0.out.2.2 hne O.out.1.c.bel O.out.1.c.lo)
          clear hv hne
          go_wp2_with fail
          refine (wcode b1 (sdL zs) (baseL zs) _ zs V.out.2.1 V.out.2.2 (wsq D) _ F m (by exact O.out.1.c.a) O.out.2.2 (by omega) (by exact hon.out)).mono ?_
          rintro e w6 ⟨F6, hcw, hans⟩
          have ht1 : (wrM.run (squareA (baseL zs) (ordOf (sdL zs)) zs) (wsq D)).1 = (none, zs) := by
            obtain ⟨hsd, hvv⟩ := sized_L V.out.1
            obtain ⟨ho, _, hn⟩ := ord_sized hsd
            rw [echo_wr.run]
            refine say_square _ _ zs ho ?_ hn
            intro v hvm
            apply lvOut_false
            rw [Bool.eq_false_iff]
            intro h2
            have := List.any_eq_true.2 ⟨v, hvm, h2⟩
            rw [hvv] at this
            exact Bool.noConfusion this
          rw [ht1] at hans
          obtain ⟨g6, rfl, hb6⟩ := hans
          rw [show ((none, zs) : SqR).2.length = zs.length from rfl]
          obtain ⟨m6, hm6, hok6⟩ := ok_square (wr_coder b1) V.out.2.1 (wsq D) m O.out.2.2
          have es : (wrM.run (squareA (baseL zs) (ordOf (sdL zs)) zs) (wsq D)).2 = wsq (D ++ [zs]) := (wsq_snoc D zs).symm
          rw [es] at hcw hok6
          have T6 := hid (And.intro (O.out.1.code hcw) (And.intro (nums_blk hb6.b rfl) hok6))
          have f6 := (T6.out.1.c.bel.cell (p := ⟨b4, o4 + i, none⟩) C0.out.2.1).trans C0.out.1
          clear hcw hb6 ht1 hok6 f0 es
          go_wp2_with fail
          refine (ints_same _ _ zs _ (by exact T6.out.2.1) (by exact C0.out.2.2.below T6.out.1.c.bel) (by omega)).mono ?_
          rintro e w9 ⟨rfl, hb⟩
          have hal : Below w9.heap.size w9 (w9.alloc (.cells #[.slice A4 zs.length c4] 29)) := (Below.refl _ _).alloc (Nat.le_refl _) _
          have T9 := hid (T6.out.1.below (wr_coder b1) hb)
          have T10 := hid (T9.out.below (wr_coder b1) hal)
          have f9 := (T9.out.c.bel.cell (p := ⟨b4, o4 + i, none⟩) C0.out.2.1).trans C0.out.1
          have N := hid (from_one (Blk.new w9 29 #[.slice A4 zs.length c4]))
          have hsz9 := T10.out.c.bel.size
          have HSZ := hid hsz9
          clear hb f6 hal hsz9
          go_wp2_with (at_builtin; refine wpList_append_form _ rfl (.tmp 56) (.tmp 61) _ rfl w.heap.size 29 i0 (.slice none 0 0) 1 24 Tryd.underlying22 IP.out.1 IP.out.2.1 IP.out.2.2.1 IP.out.2.2.2 rfl (by omega) (.slice Ad D.length cd) D.length xs rfl (by exact T10.out.own) (.slice (some ⟨w9.heap.size, 0, none⟩) 1 1) 1 [.slice A4 zs.length c4] rfl (by exact N.out) (by simp [Value.oneCell']) (.inr (by omega)) (by unfold maxLen; omega) (by omega) (by exact HSZ.out) (D.length + 1) (xs ++ [.slice A4 zs.length c4]) rfl rfl ?_; intro g cap w11 hown hgrow hat hlt11)
          have T11 := hid (And.intro (T10.out.grown (wr_coder b1) hgrow hown hat) (O.out.2.1.snoc V.out.1 C0.out.2.2))
          clear hown hgrow hat hlt11 f9
          go_roundg (gk - 1)
          case measure => have := HI.out; omega
          case rel => exact ⟨i + 1, some ⟨g, 0, none⟩, cap, D ++ [zs], _, F6, m6, by have := HI.out; omega, by go_num, by rw [List.length_append]; rfl, by rw [List.length_append]; exact T11.out.1, T11.out.2, ⟨by rw [List.length_append]; show D.length + 1 ≤ i + 1; omega, by omega⟩, T6.out.2.2⟩
        · have hcv : codeV (checkNo zs) = .iface 35 (.int .i64 (checkNo zs)) := by unfold codeV; rw [if_neg hv]
          have HCV := hid hcv
          have HV := hid hv
          clear hv hcv
          go_wp2_with fail
          refine (code_bad _ _ _ zs _ (by exact C0.out.2.2.below O.out.1.c.bel) (by omega) HV.out).mono ?_
          rintro e w6 ⟨rfl, rfl⟩
          rw [HCV.out]
          go_wp2_with fail
          go_roundg (gk - 1)
          case measure => have := HI.out; omega
          case rel => exact ⟨i + 1, Ad, cd, D, xs, F, m, by have := HI.out; omega, by go_num, rfl, O.out.1, O.out.2.1, ⟨by omega, by omega⟩, O.out.2.2⟩
      · obtain rfl : i = l.length := by omega
        have e1 : decide ((l.length : Int) < (l.length : Int)) = false := by simp
        clear hown hsq hok hik hlt
        go_wp2_with fail
        refine (wr_endA b1 _ F (wsq D) m (by exact O.out.1.c.a) O.out.2.2 (by omega)).mono ?_
        rintro e w12 ⟨g1, p1, rfl, o1, b1'⟩
        have T7 := hid (O.out.1.below (wr_coder b1) b1')
        have O1 := hid (From.of_own o1)
        have hbl : (wsq D).e.bytes.length ≤ 140737488355328 := by
          have h1 := O.out.2.2.e.len
          obtain ⟨z, hz⟩ := trim_zeros ((wsq D).e.out ++ four (wsq D).e.low)
          have h2 := congrArg List.length hz
          simp only [List.length_append, List.length_replicate, four_len] at h2
          have h3 : (wsq D).e.bytes.length = (trim ((wsq D).e.out ++ four (wsq D).e.low)).length := rfl
          omega
        have HBL := hid hbl
        clear o1 b1' hbl
        go_wp2_with fail
        refine (new_rd _ (wsq D).e.bytes _ O1.out HBL.out).mono ?_
        rintro e w13 ⟨db, G, rfl, a4, f4, b4⟩
        have T8 := hid (show DoneAt (AtRd db) 29 (.slice Ad D.length cd) D.length xs w (Rd.new (wsq D).e.bytes) w13 G from by
          have h := T7.out.below (wr_coder b1) b4
          refine ⟨⟨a4, fun k hk => Nat.le_trans T7.out.c.bel.size (f4 k hk), h.c.bel⟩, h.own, fun k hk hG => ?_⟩
          have := (T7.out.own.lt k hk).2
          have := f4 k hG
          omega)
        have SQ := hid O.out.2.1
        clear a4 f4 b4 T7 O
        have hD200 : D.length ≤ 200 := by omega
        go_wp2_with fail
        go_loopg [11] D.length (fun k iv wr => ∃ (n : Nat) (t : Rd) (G : Nat → Prop) (q : Nat), n + k = D.length ∧ iv = .int .i64 n ∧ DoneAt (AtRd db) 29 (.slice Ad D.length cd) D.length xs w t wr G ∧ Tr (wsq D).e (wsq (D.take n)) t ∧ q ≤ 4 + 8300 * n ∧ t.Ok q)
        case atStart => exact ⟨0, _, G, 4, by omega, rfl, T8.out, back_tr D, by omega, ok_rd_new _⟩
        case round =>
          clear T8 O1 HBL
          obtain ⟨n, t, G, q, hn, rfl, hT, htr, hq, hok⟩ := hrel
          by_cases hlt : n < D.length
          · have m0 : decide (n < D.length) = true := decide_eq_true hlt
            have m1 : decide ((n : Int) < (D.length : Int)) = true := by simp; omega
            obtain ⟨zs, hz⟩ : ∃ zs, D[n]? = some zs := ⟨D[n], List.getElem?_eq_getElem hlt⟩
            obtain ⟨hc0, xz, hxz, hnz⟩ := SQ.out.2 n zs hz
            obtain ⟨A4, c4, rfl, _⟩ := hnz.form
            obtain ⟨tg, rfl⟩ : ∃ tg, Ad = some ⟨tg, 0, none⟩ := by
              rcases hT.own.2 with ⟨_, h⟩ | ⟨g', c', cur, h, _⟩
              · omega
              · injection h with h1 _ _
                exact ⟨g', h1⟩
            have f0 : wr.cell? ⟨tg, n, none⟩ = some (.slice A4 zs.length c4) := by
              have := hT.own.cellAt n (by omega)
              rw [this]; exact hxz
            have hsl := sized_L hc0
            have hz64 : zs.length ≤ 64 := by rcases hsl.1 with ⟨_, _, h⟩ | ⟨_, _, h⟩ <;> omega
            have hmk := run_make_int zs.length (by omega)
            have hzl0 : (zerosL zs.length).length = zs.length := by simp [zerosL]
            have k0 : (0 : Int) ≤ (n : Int) := by omega
            have k1 : (n : Int) < (D.length : Int) := by omega
            have NX := hid (And.intro htr (And.intro hok (And.intro hn (And.intro hz hc0))))
            have N0 := hid (And.intro hnz (And.intro hxz hsl))
            have T := hid hT
            clear hT htr hok hn hz hc0 hnz hxz hsl hlt
            obtain ⟨gk0, hgk0⟩ : ∃ g, g = gk := ⟨gk, rfl⟩
            subst hgk0
            go_wp2_with fail
            have hal : Below wr.heap.size wr (wr.alloc (.cells ((zerosL zs.length).map intV).toArray 3)) := (Below.refl _ _).alloc (Nat.le_refl _) _
            have T1 := hid (And.intro (T.out.below (rd_coder db) hal) (And.intro (T.out.c.at_new (rd_coder db)) (And.intro (T.out.c.bel.size) (Blk.new wr 3 ((zerosL zs.length).map intV).toArray))))
            have hrow : ∀ k, (Value.slice (some ⟨tg, 0, none⟩) D.length cd).ownBlock = some k → k < wr.heap.size := fun k hk => (T.out.own.lt k hk).2
            have HR := hid hrow
            clear hal f0 hrow
            generalize wr.alloc (.cells ((zerosL zs.length).map intV).toArray 3) = W1 at *
            generalize wr.heap.size = gin at *
            generalize hnz : zs.length = nz at *
            have HZ := hid (And.intro hnz hzl0)
            clear hnz hzl0
            go_wp2_with fail
            go_loopg [13] nz (fun k iv wr => ∃ (j : Nat) (u : List Int), j + k = nz ∧ iv = .int .i64 j ∧ u.length = nz ∧ (∀ v ∈ u, -9 ≤ v ∧ v ≤ 9) ∧ DoneAt (AtRd db) 29 (.slice (some ⟨tg, 0, none⟩) D.length cd) D.length xs w t wr G ∧ Blk wr gin 3 (u.map intV).toArray)
            case atStart => exact ⟨0, zerosL nz, by omega, rfl, HZ.out.2, fun v hv => by have := List.eq_of_mem_replicate hv; omega, T1.out.1, T1.out.2.2.2⟩
            case round =>
              obtain ⟨j, u, hj, rfl, hul, hui, hT, hbu⟩ := hrel
              by_cases hjn : j < nz
              · have d0 : decide (j < nz) = true := decide_eq_true hjn
                have d1 : decide ((j : Int) < (nz : Int)) = true := by simp; omega
                have k2 : (0 : Int) ≤ (j : Int) := by omega
                have k3 : (j : Int) < (nz : Int) := by omega
                have hzc : wr.cell? ⟨gin, j, none⟩ = some (.int .i64 (u.getD j 0)) := by
                  rw [hbu.cell, List.getElem?_toArray, List.getElem?_map, List.getD_eq_getElem?_getD, List.getElem?_eq_getElem (by omega)]
                  rfl
                have hfz := hbu.frozen j
                have Y := hid (And.intro hT (And.intro hbu (And.intro hul (And.intro hui (And.intro hj hjn)))))
                have hvv : -9 ≤ min (max v (-9)) 9 ∧ min (max v (-9)) 9 ≤ 9 := by omega
                have HV := hid hvv
                clear hT hbu hul hui hj hjn hvv
                go_wp2_with fail
                go_roundg (gk - 1)
                case measure => have := Y.out.2.2.2.2; omega
                case rel =>
                  refine ⟨j + 1, u.set j (min (max v (-9)) 9), by have := Y.out.2.2.2.2; omega, by go_num, by rw [List.length_set]; exact Y.out.2.2.1, fun x hx => ?_, ?_, ?_⟩
                  · rcases List.mem_or_eq_of_mem_set hx with h | h
                    · exact Y.out.2.2.2.1 x h
                    · subst h; exact HV.out
                  · exact Y.out.1.only (rd_coder db) (S := fun k => k = gin) (Only.put (S := fun k => k = gin) (Only.refl _ _) rfl j _) (fun k hk e => T1.out.2.1 (by rw [← e]; exact hk)) (fun k hk e => by have := HR.out k hk; omega) (fun k e => by have := T1.out.2.2.1; omega)
                  · have h := Y.out.2.1.put j (intV (min (max v (-9)) 9))
                    rw [show ((u.set j (min (max v (-9)) 9)).map intV).toArray = (u.map intV).toArray.setIfInBounds j (intV (min (max v (-9)) 9)) by simp [List.map_set]]
                    exact h
              · obtain rfl : j = nz := by omega
                have d0 : decide (j < j) = false := decide_eq_false (by omega)
                have d1 : decide ((j : Int) < (j : Int)) = false := by simp
                have U := hid (And.intro hul (And.intro (small_in hui) (And.intro hT (noff_new hbu rfl hul T1.out.2.1))))
                clear hj hjn hul hui hT hbu
                have hsu := sized_len N0.out.2.2.1 (l := u) (by rw [U.out.1, HZ.out.1])
                have HSU := hid hsu
                clear hsu
                go_wp2_with fail
                refine (rcode db (sdL zs) (baseL zs) _ u HSU.out U.out.2.1 t _ G q (by exact U.out.2.2.1.c.a) NX.out.2.1 (by omega) (by exact U.out.2.2.2)).mono ?_
                rintro e w6 ⟨G6, hcw, hans⟩
                obtain ⟨hb1, hb2⟩ := back_sq D n zs NX.out.2.2.2.1 NX.out.2.2.2.2 t NX.out.1 u (by rw [U.out.1, HZ.out.1])
                rw [hb1] at hans
                obtain ⟨g6, rfl, hb6⟩ := hans
                rw [show ((none, zs) : SqR).2.length = j from HZ.out.1]
                obtain ⟨m6, hm6, hok6⟩ := ok_square (rd_coder db) HSU.out t q NX.out.2.1
                have hn6 := nums_blk hb6.b rfl
                rw [HZ.out.1] at hn6
                have T6 := hid (And.intro (U.out.2.2.1.code hcw) (And.intro hn6 (And.intro hb2 hok6)))
                have f6 : w6.cell? ⟨tg, n, none⟩ = some (.slice A4 j c4) := by
                  have := T6.out.1.own.cellAt n (by omega)
                  rw [this]; exact N0.out.2.1
                clear hcw hb6 hb1 hb2 hok6 hn6
                generalize (rdM.run (squareA (baseL zs) (ordOf (sdL zs)) u) t).2 = t6 at *
                go_wp2_with fail
                refine (ints_same _ _ zs _ (by exact T6.out.2.1) (by exact N0.out.1.below T6.out.1.c.bel) (by rw [HZ.out.1]; omega)).mono ?_
                rintro e w9 ⟨rfl, hb⟩
                have T9 := hid (T6.out.1.below (rd_coder db) hb)
                clear hb f6
                go_wp2_with fail
                go_roundg (gk0 - 1)
                case measure => have := NX.out.2.2.1; omega
                case rel => exact ⟨n + 1, t6, G6, m6, by have := NX.out.2.2.1; omega, by go_num, T9.out, T6.out.2.2.1, by omega, T6.out.2.2.2⟩
          · obtain rfl : n = D.length := by omega
            have m0 : decide (D.length < D.length) = false := decide_eq_false (by omega)
            have m1 : decide ((D.length : Int) < (D.length : Int)) = false := by simp
            have T := hid hT
            clear hT htr hok hlt
            go_wp2_with fail
            refine (first14 _ (by exact HG.out.1.below T.out.c.bel HG.out.2)).mono ?_
            rintro e w9 ⟨rfl, hb9⟩
            have B9 := hid (T.out.c.bel.trans (hb9.mono T.out.c.bel.size))
            clear hb9
            go_wp2_with fail
            go_ret
            exact ⟨rfl, B9.out⟩
end Go.Proofs.YtnlfnknkiggejaaDoor
