/- Plain laws: what a writer was told a reader tells. -/
import Derived.Test.YtgdhbmpdicdbpaaAskLaws
import Derived.Test.YtgdhbmpdicdbpaaRound
namespace Go.Proofs.Ytgdhbmpdicdbpaa

theorem Track.new (f : Enc) : Track f (Dec.new f.bytes) Enc.new := ⟨rfl, rfl, rfl, by show Go.Proofs.Ytgdhbmpdicdbpaa.pre f.bytes 4 + val [0, 0, 0, 0] = _; simp [val, valR]; rfl⟩
theorem Enc.new_V : Enc.new.V = 0 := by show val [0, 0, 0, 0] = 0; simp [val, valR]
theorem fit_new : Enc.new.Fit := ⟨by show 0 ≤ _; omega, by rw [Enc.new_V]; show 0 + 4294967295 ≤ 256 ^ 4; omega⟩

structure GoodW (s : Wr) : Prop where
  P : POk s.P
  r0 : 16777216 ≤ s.e.r
  r1 : s.e.r ≤ 4294967295
  fit : s.e.Fit
structure Tr (f : Enc) (s : Wr) (t : Rd) : Prop where
  P : s.P = t.P
  d : Track f t.d s.e
/-- One operation of a writer, and the like of a reader. -/
def Bk {α : Type} (f : Enc) (s : Wr) (t : Rd) (x : α × Wr) (y : α × Rd) : Prop :=
  GoodW s → Inside s.e x.2.e ∧ GoodW x.2 ∧ (Tr f s t → Inside x.2.e f → x.1 = y.1 ∧ Tr f x.2 y.2)
section
variable {α β : Type} {f : Enc} {s : Wr} {t : Rd}
theorem Bk.ret (a : α) : Bk f s t (a, s) (a, t) := fun h => ⟨Inside.refl _, h, fun ht _ => ⟨rfl, ht⟩⟩
theorem Bk.seq {x : α × Wr} {y : α × Rd} (k : α → Wr → β × Wr) (k' : α → Rd → β × Rd) (h : Bk f s t x y) (hk : ∀ a, Bk f x.2 y.2 (k a x.2) (k' a y.2)) : Bk f s t (k x.1 x.2) (k' y.1 y.2) := by
  intro hs
  obtain ⟨h1, h2, h3⟩ := h hs
  obtain ⟨g1, g2, g3⟩ := hk x.1 h2
  refine ⟨h1.trans g1, g2, fun ht hi => ?_⟩
  obtain ⟨e, ht'⟩ := h3 ht (g1.trans hi)
  have := g3 ht' hi
  rw [← e]
  exact this
theorem Bk.map {x : α × Wr} {y : α × Rd} (g : α → β) (h : Bk f s t x y) : Bk f s t (g x.1, x.2) (g y.1, y.2) := by
  intro hs
  obtain ⟨h1, h2, h3⟩ := h hs
  refine ⟨h1, h2, fun ht hi => ?_⟩
  obtain ⟨e, ht'⟩ := h3 ht hi
  exact ⟨by rw [e], ht'⟩
theorem Bk.bit (hf : 1 ≤ f.r) (c : Nat) (hc : c < 64) (u u' : Bool) : Bk f s t (wrM.bit s c u) (rdM.bit t c u') := by
  intro hs
  have hsh := share_ok (p := s.P.getD c 0) hs.r0 (by have := hs.P.lo c hc; omega) (by have := hs.P.hi c hc; omega)
  have hn := Enc.narrow_fit hs.fit _ hsh.2 hs.r1 u
  have hk := Enc.narrow_ok (e := s.e) (lim := s.e.out.length) ⟨hs.r0, hs.r1, hs.fit.low, Nat.le_refl _⟩ hsh.1 hsh.2 u
  refine ⟨hn.2, ⟨hs.P.learn c hc u, hk.r0, hk.r1, hn.1⟩, fun ht hi => ?_⟩
  have hb := ht.d.narrow hs.fit hf _ hsh.2 hs.r1 u hi
  have ev : t.d.r / 2048 * t.P.getD c 0 = s.e.r / 2048 * s.P.getD c 0 := by rw [ht.d.r, ht.P]
  show u = t.d.bit (t.d.r / 2048 * t.P.getD c 0) ∧ Tr f _ ⟨learnAt t.P c (t.d.bit (t.d.r / 2048 * t.P.getD c 0)), t.d.narrow (t.d.r / 2048 * t.P.getD c 0)⟩
  rw [ev, hb.1]
  exact ⟨rfl, ⟨by show learnAt s.P c u = learnAt t.P c u; rw [ht.P], hb.2⟩⟩
theorem Bk.flat (hf : 1 ≤ f.r) (u u' : Bool) : Bk f s t (wrM.flat s u) (rdM.flat t u') := by
  intro hs
  have h1 : 1 ≤ s.e.r / 2 := by have := hs.r0; omega
  have h2 : s.e.r / 2 < s.e.r := by have := hs.r0; omega
  have hn := Enc.narrow_fit hs.fit _ h2 hs.r1 u
  have hk := Enc.narrow_ok (e := s.e) (lim := s.e.out.length) ⟨hs.r0, hs.r1, hs.fit.low, Nat.le_refl _⟩ h1 h2 u
  refine ⟨hn.2, ⟨hs.P, hk.r0, hk.r1, hn.1⟩, fun ht hi => ?_⟩
  have hb := ht.d.narrow hs.fit hf _ h2 hs.r1 u hi
  have ev : t.d.r / 2 = s.e.r / 2 := by rw [ht.d.r]
  show u = t.d.bit (t.d.r / 2) ∧ Tr f _ ⟨t.P, t.d.narrow (t.d.r / 2)⟩
  rw [ev, hb.1]
  exact ⟨rfl, ⟨ht.P, hb.2⟩⟩
theorem Bk.any (hf : 1 ≤ f.r) (c : Int) (u u' : Bool) : Bk f s t (wrM.anyBit s c u) (rdM.anyBit t c u') := by
  unfold Mach.anyBit
  split
  · exact Bk.bit hf _ (by omega) _ _
  · exact Bk.flat hf _ _
theorem Bk.ones (hf : 1 ≤ f.r) (ff : Nat → Nat) (hff : ∀ n, ff n < 64) (v v' : Int) : ∀ (k n : Nat) (s : Wr) (t : Rd), Bk f s t (wrM.ones ff v k n s) (rdM.ones ff v' k n t)
  | 0, n, s, t => Bk.ret n
  | k + 1, n, s, t => by
    rw [Mach.ones, Mach.ones]
    exact Bk.seq (fun a s' => if a = true then wrM.ones ff v k (n + 1) s' else (n, s')) (fun a t' => if a = true then rdM.ones ff v' k (n + 1) t' else (n, t')) (Bk.bit hf _ (hff n) _ _) (fun a => by
      cases a
      · exact Bk.ret n
      · exact Bk.ones hf ff hff v v' k (n + 1) _ _)
theorem Bk.onesLt (hf : 1 ≤ f.r) (v v' : Int) : Bk f s t (wrM.ones (fun n => n) v 3 0 s) (rdM.ones (fun n => n) v' 3 0 t) := by
  have h := Bk.ones hf (fun n => min n 3) (fun n => by show min n 3 < 64; omega) v v' 3 0 s t
  have e : ∀ {σ : Type} (M : Mach σ) (w : Int) (k n : Nat) (q : σ), n + k ≤ 3 → M.ones (fun n => min n 3) w k n q = M.ones (fun n => n) w k n q := by
    intro σ M w k
    induction k with
    | zero => intro n q _; rfl
    | succ k ih =>
      intro n q hn
      rw [Mach.ones, Mach.ones]
      have hm : min n 3 = n := by omega
      simp only [hm]
      rw [ih (n + 1) _ (by omega)]
  rw [e wrM v 3 0 s (by omega), e rdM v' 3 0 t (by omega)] at h
  exact h
theorem Bk.kind (hf : 1 ≤ f.r) (v v' : Int) : Bk f s t (wrM.kind v s) (rdM.kind v' t) := Bk.map (fun n : Nat => (n : Int)) (Bk.onesLt hf v v')
theorem Bk.mode (hf : 1 ≤ f.r) (v v' : Int) : Bk f s t (wrM.mode v s) (rdM.mode v' t) := by
  have h := Bk.seq (x := wrM.bit s 3 (decide (1 < cut v 0 3))) (y := rdM.bit t 3 (decide (1 < cut v' 0 3)))
    (fun a s' => ((if a then (2 : Int) else 0) + (if (wrM.bit s' (if a then 5 else 4) (decide (cut v 0 3 % 2 = 1))).1 then 1 else 0), (wrM.bit s' (if a then 5 else 4) (decide (cut v 0 3 % 2 = 1))).2))
    (fun a t' => ((if a then (2 : Int) else 0) + (if (rdM.bit t' (if a then 5 else 4) (decide (cut v' 0 3 % 2 = 1))).1 then 1 else 0), (rdM.bit t' (if a then 5 else 4) (decide (cut v' 0 3 % 2 = 1))).2))
    (Bk.bit hf 3 (by omega) _ _) (fun a => by
      cases a
      · exact Bk.map (fun b : Bool => (0 : Int) + (if b then 1 else 0)) (Bk.bit hf 4 (by omega) _ _)
      · exact Bk.map (fun b : Bool => (2 : Int) + (if b then 1 else 0)) (Bk.bit hf 5 (by omega) _ _))
  exact h
theorem Bk.part (hf : 1 ≤ f.r) (v v' : Int) : Bk f s t (wrM.part v s) (rdM.part v' t) :=
  Bk.seq
    (fun a s' => if a then
      (if (wrM.flat s' (decide (cut v (-15) 15 < 0))).1 then -((wrM.ones (fun n => 7 + min n 6) (max (cut v (-15) 15) (-(cut v (-15) 15)) - 1) 14 0 (wrM.flat s' (decide (cut v (-15) 15 < 0))).2).1 : Int) - 1 else ((wrM.ones (fun n => 7 + min n 6) (max (cut v (-15) 15) (-(cut v (-15) 15)) - 1) 14 0 (wrM.flat s' (decide (cut v (-15) 15 < 0))).2).1 : Int) + 1, (wrM.ones (fun n => 7 + min n 6) (max (cut v (-15) 15) (-(cut v (-15) 15)) - 1) 14 0 (wrM.flat s' (decide (cut v (-15) 15 < 0))).2).2)
      else (0, s'))
    (fun a s' => if a then
      (if (rdM.flat s' (decide (cut v' (-15) 15 < 0))).1 then -((rdM.ones (fun n => 7 + min n 6) (max (cut v' (-15) 15) (-(cut v' (-15) 15)) - 1) 14 0 (rdM.flat s' (decide (cut v' (-15) 15 < 0))).2).1 : Int) - 1 else ((rdM.ones (fun n => 7 + min n 6) (max (cut v' (-15) 15) (-(cut v' (-15) 15)) - 1) 14 0 (rdM.flat s' (decide (cut v' (-15) 15 < 0))).2).1 : Int) + 1, (rdM.ones (fun n => 7 + min n 6) (max (cut v' (-15) 15) (-(cut v' (-15) 15)) - 1) 14 0 (rdM.flat s' (decide (cut v' (-15) 15 < 0))).2).2)
      else (0, s'))
    (Bk.bit hf 6 (by omega) _ _) (fun a => by
      cases a
      · exact Bk.ret 0
      · exact Bk.seq
          (fun d s'' => ((if d then -((wrM.ones (fun n => 7 + min n 6) (max (cut v (-15) 15) (-(cut v (-15) 15)) - 1) 14 0 s'').1 : Int) - 1 else ((wrM.ones (fun n => 7 + min n 6) (max (cut v (-15) 15) (-(cut v (-15) 15)) - 1) 14 0 s'').1 : Int) + 1), (wrM.ones (fun n => 7 + min n 6) (max (cut v (-15) 15) (-(cut v (-15) 15)) - 1) 14 0 s'').2))
          (fun d s'' => ((if d then -((rdM.ones (fun n => 7 + min n 6) (max (cut v' (-15) 15) (-(cut v' (-15) 15)) - 1) 14 0 s'').1 : Int) - 1 else ((rdM.ones (fun n => 7 + min n 6) (max (cut v' (-15) 15) (-(cut v' (-15) 15)) - 1) 14 0 s'').1 : Int) + 1), (rdM.ones (fun n => 7 + min n 6) (max (cut v' (-15) 15) (-(cut v' (-15) 15)) - 1) 14 0 s'').2))
          (Bk.flat hf _ _) (fun d => Bk.map (fun n : Nat => if d then -(n : Int) - 1 else (n : Int) + 1) (Bk.ones hf _ (fun n => by show 7 + min n 6 < 64; omega) _ _ 14 0 _ _)))
theorem Bk.asks (hf : 1 ≤ f.r) (o o' : Oper13) (hk : o'.kind = o.kind) (hc : o'.c = o.c) (k k' : Int) : Bk f s t (wrM.asks o k s) (rdM.asks o' k' t) := by
  unfold Mach.asks
  rw [hk, hc]
  split
  · exact Bk.map flagI (Bk.any hf _ _ _)
  · split
    · exact Bk.map flagI (Bk.flat hf _ _)
    · split
      · exact Bk.kind hf _ _
      · split
        · exact Bk.mode hf _ _
        · exact Bk.part hf _ _
end

/-! ### A run of operations -/
def oAt (l : List Oper13) (i : Nat) : Oper13 := l.getD i ⟨0, 0, 0, false⟩
def ws (l : List Oper13) : Nat → Wr
  | 0 => Wr.new
  | i + 1 => (wrM.asks (oAt l i) (cut (oAt l i).v 0 3) (ws l i)).2
def tl (l : List Oper13) (i : Nat) : Int := (wrM.asks (oAt l i) (cut (oAt l i).v 0 3) (ws l i)).1
theorem ws_ok (l : List Oper13) : ∀ i, ∃ n, n ≤ 60 * i ∧ (ws l i).Ok n
  | 0 => ⟨0, by omega, ok_wr_new⟩
  | i + 1 => by
    obtain ⟨n, hn, h⟩ := ws_ok l i
    obtain ⟨m, hm, h'⟩ := (wr_coder 0).okAsks (oAt l i) (cut (oAt l i).v 0 3) (ws l i) n h
    exact ⟨m, by omega, h'⟩
theorem ws_good (l : List Oper13) : ∀ i, GoodW (ws l i)
  | 0 => ⟨pok_first, by show 16777216 ≤ 4294967295; omega, by show 4294967295 ≤ 4294967295; omega, fit_new⟩
  | i + 1 => (Bk.asks (f := ⟨[], 0, 1⟩) (t := Rd.new []) (by show 1 ≤ 1; omega) (oAt l i) (oAt l i) rfl rfl (cut (oAt l i).v 0 3) 0 (ws_good l i)).2.1
theorem ws_inside (l : List Oper13) (i : Nat) : ∀ k, Inside (ws l i).e (ws l (i + k)).e
  | 0 => Inside.refl _
  | k + 1 => (ws_inside l i k).trans (Bk.asks (f := ⟨[], 0, 1⟩) (t := Rd.new []) (by show 1 ≤ 1; omega) (oAt l (i + k)) (oAt l (i + k)) rfl rfl (cut (oAt l (i + k)).v 0 3) 0 (ws_good l (i + k))).1
/-- A reader of the bytes, asked likewise with whatever numbers. -/
theorem back_step (l : List Oper13) (n i : Nat) (hi : i < n) (t : Rd) (ht : Tr (ws l n).e (ws l i) t) (v : Int) (b : Bool) (k : Int) :
    (rdM.asks ⟨(oAt l i).kind, (oAt l i).c, v, b⟩ k t).1 = tl l i ∧ Tr (ws l n).e (ws l (i + 1)) (rdM.asks ⟨(oAt l i).kind, (oAt l i).c, v, b⟩ k t).2 := by
  have hf : 1 ≤ (ws l n).e.r := by have := (ws_good l n).r0; omega
  have h := (Bk.asks (s := ws l i) (t := t) hf (oAt l i) ⟨(oAt l i).kind, (oAt l i).c, v, b⟩ rfl rfl (cut (oAt l i).v 0 3) k (ws_good l i)).2.2 ht (by
    have := ws_inside l (i + 1) (n - (i + 1))
    rw [show i + 1 + (n - (i + 1)) = n by omega] at this
    exact this)
  exact ⟨h.1.symm, h.2⟩
theorem back_new (l : List Oper13) (n : Nat) : Tr (ws l n).e (ws l 0) (Rd.new (ws l n).e.bytes) := ⟨rfl, Track.new _⟩
end Go.Proofs.Ytgdhbmpdicdbpaa
