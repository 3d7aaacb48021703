/- Parts: XRSynC, XRSynD. -/
import Derived.Test.YtkkgpdejmcpcpaaGreatDoorM26
import Derived.Test.YtkkgpdejmcpcpaaGreatDoorM28
import Derived.Test.YtkkgpdejmcpcpaaGreatDoorM29
/- Chapter 20: what the walk of the document's Code holds. -/
namespace Go.Proofs.YtkkgpdejmcpcpaaGreatDoor
open Go.RowKit
section
variable {σ : Type} {M : Mach σ} {fB fF : FuncId} {me : Value} {At : World → (Nat → Prop) → σ → Prop} {Ok : σ → Nat → Prop} {w0 W W' : World} {s s' : σ} {F0 F F' E E' : Nat → Prop} {L D : List (Value × List Int)} {v : Value} {l : List Int} {ob g : Nat}

theorem Lst.off (h : Lst w0 v l W F) (hg : ∀ k, v.ownBlock = some k → k ≠ g) (i : Nat) (u : Value) : Lst w0 v l (W.setCell ⟨g, i, none⟩ u) F := by
  rcases h with h | ⟨b, rfl, h2⟩
  · exact .inl h
  · exact .inr ⟨b, rfl, h2.b.far (p := ⟨g, i, none⟩) (by show b ≠ g; exact hg b rfl) u, h2.f, h2.lo⟩
theorem Lst.blt (h : Lst w0 v l W F) : ∀ k, v.ownBlock = some k → k < W.heap.size ∧ w0.heap.size ≤ k := by
  intro k hk
  rcases h with ⟨rfl, _⟩ | ⟨b, rfl, h2⟩
  · simp [Value.ownBlock] at hk
  · have e : b = k := by simpa [Value.ownBlock] using hk
    subst e
    exact ⟨h2.b.lt, h2.lo⟩
theorem size_put (W : World) (p : Addr) (u : Value) : (W.setCell p u).heap.size = W.heap.size := by simp
/-- A coder beside blocks of the call's own; lists that are read, lists that were told. -/
structure RC (At : World → (Nat → Prop) → σ → Prop) (w0 : World) (F0 E : Nat → Prop) (L D : List (Value × List Int)) (s : σ) (W : World) (F : Nat → Prop) : Prop where
  c : CW At w0 F0 s W F
  e : ∀ k, E k → w0.heap.size ≤ k ∧ k < W.heap.size ∧ ¬ F k
  ls : ∀ p ∈ L, NOff p.1 p.2 W F ∧ ∀ k, p.1.ownBlock = some k → ¬ E k
  ds : ∀ p ∈ D, Lst w0 p.1 p.2 W F ∧ ∀ k, p.1.ownBlock = some k → ¬ E k
theorem RC.code (h : RC At w0 F0 E L D s W F) (c : CW At W F s' W' F') : RC At w0 F0 E L D s' W' F' :=
  ⟨h.c.moved c.a c.o c.f, fun k hk => ⟨(h.e k hk).1, Nat.lt_of_lt_of_le (h.e k hk).2.1 c.o.size, fun hF => by
    rcases c.f k hF with e | e
    · exact (h.e k hk).2.2 e
    · have := (h.e k hk).2.1; omega⟩, fun p hp => ⟨(h.ls p hp).1.moved c.o c.f, (h.ls p hp).2⟩, fun p hp => ⟨(h.ds p hp).1.moved c.o c.f, (h.ds p hp).2⟩⟩
theorem RC.below (H : IsCoder M fB fF me At Ok) (h : RC At w0 F0 E L D s W F) (hb : Below W.heap.size W W') : RC At w0 F0 E L D s W' F :=
  ⟨h.c.below H hb, fun k hk => ⟨(h.e k hk).1, Nat.lt_of_lt_of_le (h.e k hk).2.1 hb.size, (h.e k hk).2.2⟩, fun p hp => ⟨(h.ls p hp).1.below hb, (h.ls p hp).2⟩, fun p hp => ⟨(h.ds p hp).1.below hb, (h.ds p hp).2⟩⟩
theorem RC.put (H : IsCoder M fB fF me At Ok) (h : RC At w0 F0 E L D s W F) (hE : E g) (i : Nat) (u : Value) : RC At w0 F0 E L D s (W.setCell ⟨g, i, none⟩ u) F :=
  ⟨h.c.put H (h.e g hE).2.2 (h.e g hE).1 i u, fun k hk => ⟨(h.e k hk).1, by rw [size_put]; exact (h.e k hk).2.1, (h.e k hk).2.2⟩, fun p hp => ⟨(h.ls p hp).1.put (fun k hk e => (h.ls p hp).2 k hk (by rw [e]; exact hE)) i u, (h.ls p hp).2⟩, fun p hp => ⟨(h.ds p hp).1.off (fun k hk e => (h.ds p hp).2 k hk (by rw [e]; exact hE)) i u, (h.ds p hp).2⟩⟩
theorem RC.mono (h : RC At w0 F0 E L D s W F) (hE : ∀ k, E' k → E k) : RC At w0 F0 E' L D s W F :=
  ⟨h.c, fun k hk => h.e k (hE k hk), fun p hp => ⟨(h.ls p hp).1, fun k hk e => (h.ls p hp).2 k hk (hE k e)⟩, fun p hp => ⟨(h.ds p hp).1, fun k hk e => (h.ds p hp).2 k hk (hE k e)⟩⟩
/-- A new block. -/
theorem RC.grow (H : IsCoder M fB fF me At Ok) (h : RC At w0 F0 E L D s W F) (c : Obj) : RC At w0 F0 (fun k => E k ∨ k = W.heap.size) L D s (W.alloc c) F := by
  have hb : Below W.heap.size W (W.alloc c) := (Below.refl _ _).alloc (Nat.le_refl _) _
  have h1 := h.below H hb
  have hz : (W.alloc c).heap.size = W.heap.size + 1 := by simp
  refine ⟨h1.c, fun k hk => ?_, fun p hp => ⟨(h1.ls p hp).1, fun k hk e => ?_⟩, fun p hp => ⟨(h1.ds p hp).1, fun k hk e => ?_⟩⟩
  · rcases hk with hk | rfl
    · exact h1.e k hk
    · exact ⟨h.c.o.size, by omega, fun hF => by have := H.there _ _ _ _ h.c.a hF; omega⟩
  · rcases e with e | e
    · exact (h.ls p hp).2 k hk e
    · have := (h.ls p hp).1.b k hk; omega
  · rcases e with e | e
    · exact (h.ds p hp).2 k hk e
    · have := ((h.ds p hp).1.blt k hk).1; omega
theorem RC.addD (h : RC At w0 F0 E L D s W F) (hl : Lst w0 v l W F) (hE : ∀ k, v.ownBlock = some k → ¬ E k) : RC At w0 F0 E L ((v, l) :: D) s W F :=
  ⟨h.c, h.e, h.ls, fun p hp => by
    rcases List.mem_cons.1 hp with rfl | hp
    · exact ⟨hl, hE⟩
    · exact h.ds p hp⟩
theorem RC.addL (h : RC At w0 F0 E L D s W F) (hl : NOff v l W F) (hE : ∀ k, v.ownBlock = some k → ¬ E k) : RC At w0 F0 E ((v, l) :: L) D s W F :=
  ⟨h.c, h.e, fun p hp => by
    rcases List.mem_cons.1 hp with rfl | hp
    · exact ⟨hl, hE⟩
    · exact h.ls p hp, h.ds⟩
theorem RC.start (h : At w0 F0 s) (hL : ∀ p ∈ L, NOff p.1 p.2 w0 F0) : RC At w0 F0 (fun _ => False) L [] s w0 F0 :=
  ⟨CW.start h, fun k hk => hk.elim, fun p hp => ⟨hL p hp, fun k _ e => e⟩, fun p hp => by cases hp⟩
/-- The blocks ahead of the square's kind: its box and the two results. -/
def boxE (w0 : World) : Nat → Prop := fun b => b = w0.heap.size ∨ b = w0.heap.size + 1 ∨ b = w0.heap.size + 1 + 1
variable {k0 mode0 x0 y0 k mode x y k' mode' x' y' ec : Int} {ms0 ms ms' : List Int} {lv0 lv lv' ep : Value} {vs0 vs vs' : List Value}
structure RB (At : World → (Nat → Prop) → σ → Prop) (w0 : World) (F0 : Nat → Prop) (k0 mode0 : Int) (ms0 : List Int) (x0 y0 : Int) (lv0 : Value) (vs0 : List Value) (L : List (Value × List Int)) (s : σ) (W : World) (F : Nat → Prop) : Prop where
  c : RC At w0 F0 (boxE w0) L [] s W F
  box : SqBlk W w0.heap.size 42 k0 mode0 ms0 x0 y0 lv0 vs0
  res : SqBlk W (w0.heap.size + 1) 42 0 0 [] 0 0 nilS []
  rer : Blk W (w0.heap.size + 1 + 1) 46 #[.int .i64 0, nilS]
theorem RB.below (H : IsCoder M fB fF me At Ok) (h : RB At w0 F0 k0 mode0 ms0 x0 y0 lv0 vs0 L s W F) (hb : Below W.heap.size W W') : RB At w0 F0 k0 mode0 ms0 x0 y0 lv0 vs0 L s W' F :=
  ⟨h.c.below H hb, h.box.below hb, h.res.below hb, h.rer.below hb h.rer.lt⟩
theorem RB.code (h : RB At w0 F0 k0 mode0 ms0 x0 y0 lv0 vs0 L s W F) (c : CW At W F s' W' F') : RB At w0 F0 k0 mode0 ms0 x0 y0 lv0 vs0 L s' W' F' :=
  ⟨h.c.code c, h.box.keep c.o (h.c.e _ (.inl rfl)).2.2, h.res.keep c.o (h.c.e _ (.inr (.inl rfl))).2.2, h.rer.keep c.o (h.c.e _ (.inr (.inr rfl))).2.2⟩
theorem RB.start (H : IsCoder M fB fF me At Ok) {m0 m1 m2 m3 : Int} {v0 v1 v2 v3 : Value} (hs : At w0 F0 s) (hL : ∀ p ∈ L, NOff p.1 p.2 w0 F0) :
    RB At w0 F0 k mode [m0, m1, m2, m3] x y lv [v0, v1, v2, v3] L s (((w0.alloc (.cells #[.int .i64 k, .int .i64 mode, .int .i64 m0, .int .i64 m1, .int .i64 m2, .int .i64 m3, .int .i64 x, .int .i64 y, lv, v0, v1, v2, v3] 42)).alloc (.cells #[.int .i64 0, .int .i64 0, .int .i64 0, .int .i64 0, .int .i64 0, .int .i64 0, .int .i64 0, .int .i64 0, nilS, nilS, nilS, nilS, nilS] 42)).alloc (.cells #[.int .i64 0, nilS] 46)) F0 := by
  have h0 := RC.start hs hL
  have h1 := h0.grow H (.cells #[.int .i64 k, .int .i64 mode, .int .i64 m0, .int .i64 m1, .int .i64 m2, .int .i64 m3, .int .i64 x, .int .i64 y, lv, v0, v1, v2, v3] 42)
  have b1 : SqBlk (w0.alloc (.cells #[.int .i64 k, .int .i64 mode, .int .i64 m0, .int .i64 m1, .int .i64 m2, .int .i64 m3, .int .i64 x, .int .i64 y, lv, v0, v1, v2, v3] 42)) w0.heap.size 42 k mode [m0, m1, m2, m3] x y lv [v0, v1, v2, v3] := SqBlk.of (Blk.new _ _ _) rfl
  have z1 : (w0.alloc (.cells #[.int .i64 k, .int .i64 mode, .int .i64 m0, .int .i64 m1, .int .i64 m2, .int .i64 m3, .int .i64 x, .int .i64 y, lv, v0, v1, v2, v3] 42)).heap.size = w0.heap.size + 1 := by simp
  generalize w0.alloc (.cells #[.int .i64 k, .int .i64 mode, .int .i64 m0, .int .i64 m1, .int .i64 m2, .int .i64 m3, .int .i64 x, .int .i64 y, lv, v0, v1, v2, v3] 42) = W1 at *
  have h2 := h1.grow H (.cells #[.int .i64 0, .int .i64 0, .int .i64 0, .int .i64 0, .int .i64 0, .int .i64 0, .int .i64 0, .int .i64 0, nilS, nilS, nilS, nilS, nilS] 42)
  have hb2 : Below W1.heap.size W1 (W1.alloc (.cells #[.int .i64 0, .int .i64 0, .int .i64 0, .int .i64 0, .int .i64 0, .int .i64 0, .int .i64 0, .int .i64 0, nilS, nilS, nilS, nilS, nilS] 42)) := (Below.refl _ _).alloc (Nat.le_refl _) _
  have r2 : SqBlk (W1.alloc (.cells #[.int .i64 0, .int .i64 0, .int .i64 0, .int .i64 0, .int .i64 0, .int .i64 0, .int .i64 0, .int .i64 0, nilS, nilS, nilS, nilS, nilS] 42)) W1.heap.size 42 0 0 [] 0 0 nilS [] := SqBlk.new (Blk.new _ _ _) rfl
  have z2 : (W1.alloc (.cells #[.int .i64 0, .int .i64 0, .int .i64 0, .int .i64 0, .int .i64 0, .int .i64 0, .int .i64 0, .int .i64 0, nilS, nilS, nilS, nilS, nilS] 42)).heap.size = w0.heap.size + 1 + 1 := by simp [z1]
  have b2 := b1.below hb2
  generalize W1.alloc (.cells #[.int .i64 0, .int .i64 0, .int .i64 0, .int .i64 0, .int .i64 0, .int .i64 0, .int .i64 0, .int .i64 0, nilS, nilS, nilS, nilS, nilS] 42) = W2 at *
  have h3 := h2.grow H (.cells #[.int .i64 0, nilS] 46)
  have hb3 : Below W2.heap.size W2 (W2.alloc (.cells #[.int .i64 0, nilS] 46)) := (Below.refl _ _).alloc (Nat.le_refl _) _
  have q3 := Blk.new W2 46 #[.int .i64 0, nilS]
  rw [z2] at q3 h3
  rw [z1] at r2 h3
  refine ⟨h3.mono (fun b hb => ?_), b2.below hb3, r2.below hb3, q3⟩
  rcases hb with hb | hb | hb
  · exact .inl (.inl (.inr hb))
  · exact .inl (.inr hb)
  · exact .inr hb
/-- .. and the square and the error that are answered. -/
def tailE (w0 : World) (ob : Nat) : Nat → Prop := fun b => boxE w0 b ∨ b = ob ∨ b = ob + 1
structure RT (At : World → (Nat → Prop) → σ → Prop) (w0 : World) (F0 : Nat → Prop) (ob : Nat) (k0 mode0 : Int) (ms0 : List Int) (x0 y0 : Int) (lv0 : Value) (vs0 : List Value) (L D : List (Value × List Int))
    (k mode : Int) (ms : List Int) (x y : Int) (lv : Value) (vs : List Value) (ec : Int) (ep : Value) (s : σ) (W : World) (F : Nat → Prop) : Prop where
  c : RC At w0 F0 (tailE w0 ob) L D s W F
  box : SqBlk W w0.heap.size 42 k0 mode0 ms0 x0 y0 lv0 vs0
  res : SqBlk W (w0.heap.size + 1) 42 0 0 [] 0 0 nilS []
  rer : Blk W (w0.heap.size + 1 + 1) 46 #[.int .i64 0, nilS]
  out : SqBlk W ob 42 k mode ms x y lv vs
  er : Blk W (ob + 1) 46 #[.int .i64 ec, ep]
  lo : w0.heap.size + 3 ≤ ob
theorem RT.below (H : IsCoder M fB fF me At Ok) (h : RT At w0 F0 ob k0 mode0 ms0 x0 y0 lv0 vs0 L D k mode ms x y lv vs ec ep s W F) (hb : Below W.heap.size W W') : RT At w0 F0 ob k0 mode0 ms0 x0 y0 lv0 vs0 L D k mode ms x y lv vs ec ep s W' F :=
  ⟨h.c.below H hb, h.box.below hb, h.res.below hb, h.rer.below hb h.rer.lt, h.out.below hb, h.er.below hb h.er.lt, h.lo⟩
theorem RT.code (h : RT At w0 F0 ob k0 mode0 ms0 x0 y0 lv0 vs0 L D k mode ms x y lv vs ec ep s W F) (c : CW At W F s' W' F') : RT At w0 F0 ob k0 mode0 ms0 x0 y0 lv0 vs0 L D k mode ms x y lv vs ec ep s' W' F' :=
  ⟨h.c.code c, h.box.keep c.o (h.c.e _ (.inl (.inl rfl))).2.2, h.res.keep c.o (h.c.e _ (.inl (.inr (.inl rfl)))).2.2, h.rer.keep c.o (h.c.e _ (.inl (.inr (.inr rfl)))).2.2, h.out.keep c.o (h.c.e _ (.inr (.inl rfl))).2.2, h.er.keep c.o (h.c.e _ (.inr (.inr rfl))).2.2, h.lo⟩
theorem RT.moved (h : RT At w0 F0 ob k0 mode0 ms0 x0 y0 lv0 vs0 L D k mode ms x y lv vs ec ep s W F) (hm : Moved At W F s' W') : ∃ F', RT At w0 F0 ob k0 mode0 ms0 x0 y0 lv0 vs0 L D k mode ms x y lv vs ec ep s' W' F' := by
  obtain ⟨F', c⟩ := CW.of_moved hm
  exact ⟨F', h.code c⟩
theorem RT.putO (H : IsCoder M fB fF me At Ok) (h : RT At w0 F0 ob k0 mode0 ms0 x0 y0 lv0 vs0 L D k mode ms x y lv vs ec ep s W F) (i : Nat) (u : Value) (ho : SqBlk (W.setCell ⟨ob, i, none⟩ u) ob 42 k' mode' ms' x' y' lv' vs') :
    RT At w0 F0 ob k0 mode0 ms0 x0 y0 lv0 vs0 L D k' mode' ms' x' y' lv' vs' ec ep s (W.setCell ⟨ob, i, none⟩ u) F := by
  have hlo := h.lo
  exact ⟨h.c.put H (.inr (.inl rfl)) i u, h.box.far (p := ⟨ob, i, none⟩) (by show w0.heap.size ≠ ob; omega) u, h.res.far (p := ⟨ob, i, none⟩) (by show w0.heap.size + 1 ≠ ob; omega) u, h.rer.far (p := ⟨ob, i, none⟩) (by show w0.heap.size + 1 + 1 ≠ ob; omega) u, ho, h.er.far (p := ⟨ob, i, none⟩) (by show ob + 1 ≠ ob; omega) u, hlo⟩
theorem RT.putE (H : IsCoder M fB fF me At Ok) (h : RT At w0 F0 ob k0 mode0 ms0 x0 y0 lv0 vs0 L D k mode ms x y lv vs ec ep s W F) (ec' : Int) (ep' : Value) :
    RT At w0 F0 ob k0 mode0 ms0 x0 y0 lv0 vs0 L D k mode ms x y lv vs ec' ep' s ((W.setCell ⟨ob + 1, 0, none⟩ (.int .i64 ec')).setCell ⟨ob + 1, 1, none⟩ ep') F := by
  have hlo := h.lo
  have h1 : w0.heap.size ≠ ob + 1 := by omega
  have h2 : w0.heap.size + 1 ≠ ob + 1 := by omega
  have h3 : w0.heap.size + 1 + 1 ≠ ob + 1 := by omega
  have h4 : ob ≠ ob + 1 := by omega
  exact ⟨(h.c.put H (.inr (.inr rfl)) 0 _).put H (.inr (.inr rfl)) 1 _, (h.box.far (p := ⟨ob + 1, 0, none⟩) h1 _).far (p := ⟨ob + 1, 1, none⟩) h1 _, (h.res.far (p := ⟨ob + 1, 0, none⟩) h2 _).far (p := ⟨ob + 1, 1, none⟩) h2 _, (h.rer.far (p := ⟨ob + 1, 0, none⟩) h3 _).far (p := ⟨ob + 1, 1, none⟩) h3 _, (h.out.far (p := ⟨ob + 1, 0, none⟩) h4 _).far (p := ⟨ob + 1, 1, none⟩) h4 _, (h.er.put 0 _).put 1 _, hlo⟩
theorem RT.addD (h : RT At w0 F0 ob k0 mode0 ms0 x0 y0 lv0 vs0 L D k mode ms x y lv vs ec ep s W F) (hl : Lst w0 v l W F) (hE : ∀ b, v.ownBlock = some b → ¬ tailE w0 ob b) : RT At w0 F0 ob k0 mode0 ms0 x0 y0 lv0 vs0 L ((v, l) :: D) k mode ms x y lv vs ec ep s W F :=
  ⟨h.c.addD hl hE, h.box, h.res, h.rer, h.out, h.er, h.lo⟩
/-- The square and the error are laid. -/
theorem RB.tail (H : IsCoder M fB fF me At Ok) (h : RB At w0 F0 k0 mode0 ms0 x0 y0 lv0 vs0 L s W F) (k : Int) :
    RT At w0 F0 W.heap.size k0 mode0 ms0 x0 y0 lv0 vs0 L [] k 0 [] 0 0 nilS [] 0 nilS s ((W.alloc (.cells #[.int .i64 k, .int .i64 0, .int .i64 0, .int .i64 0, .int .i64 0, .int .i64 0, .int .i64 0, .int .i64 0, nilS, nilS, nilS, nilS, nilS] 42)).alloc (.cells #[.int .i64 0, nilS] 46)) F := by
  have h1 := h.c.grow H (.cells #[.int .i64 k, .int .i64 0, .int .i64 0, .int .i64 0, .int .i64 0, .int .i64 0, .int .i64 0, .int .i64 0, nilS, nilS, nilS, nilS, nilS] 42)
  have hb1 : Below W.heap.size W (W.alloc (.cells #[.int .i64 k, .int .i64 0, .int .i64 0, .int .i64 0, .int .i64 0, .int .i64 0, .int .i64 0, .int .i64 0, nilS, nilS, nilS, nilS, nilS] 42)) := (Below.refl _ _).alloc (Nat.le_refl _) _
  have o1 : SqBlk (W.alloc (.cells #[.int .i64 k, .int .i64 0, .int .i64 0, .int .i64 0, .int .i64 0, .int .i64 0, .int .i64 0, .int .i64 0, nilS, nilS, nilS, nilS, nilS] 42)) W.heap.size 42 k 0 [0, 0, 0, 0] 0 0 nilS [nilS, nilS, nilS, nilS] := SqBlk.of (Blk.new _ _ _) rfl
  have z1 : (W.alloc (.cells #[.int .i64 k, .int .i64 0, .int .i64 0, .int .i64 0, .int .i64 0, .int .i64 0, .int .i64 0, .int .i64 0, nilS, nilS, nilS, nilS, nilS] 42)).heap.size = W.heap.size + 1 := by simp
  have o1 := o1.getD4 (ms' := []) (vs' := []) (fun j _ => (getD_zero4 0 j).symm) (fun j _ => (getD_zero4 nilS j).symm)
  have hx := h.box.below hb1
  have hr := h.res.below hb1
  have he := h.rer.below hb1 h.rer.lt
  have hlo := h.rer.lt
  generalize W.alloc (.cells #[.int .i64 k, .int .i64 0, .int .i64 0, .int .i64 0, .int .i64 0, .int .i64 0, .int .i64 0, .int .i64 0, nilS, nilS, nilS, nilS, nilS] 42) = W1 at *
  have h2 := h1.grow H (.cells #[.int .i64 0, nilS] 46)
  have hb2 : Below W1.heap.size W1 (W1.alloc (.cells #[.int .i64 0, nilS] 46)) := (Below.refl _ _).alloc (Nat.le_refl _) _
  have e2 := Blk.new W1 46 #[.int .i64 0, nilS]
  rw [z1] at h2 e2
  refine ⟨h2.mono (fun b hb => ?_), hx.below hb2, hr.below hb2, he.below hb2 he.lt, o1.below hb2, e2, by omega⟩
  rcases hb with hb | hb | hb
  · exact .inl (.inl hb)
  · exact .inl (.inr hb)
  · exact .inr hb
end
end Go.Proofs.YtkkgpdejmcpcpaaGreatDoor

/- Chapter 20: the document's Code: ahead of the kind and behind it; how it ends. -/
namespace Go.Proofs.YtkkgpdejmcpcpaaGreatDoor
open Go.RowKit
section
variable {σ : Type} {M : Mach σ} {fB fF : FuncId} {me : Value} {At : World → (Nat → Prop) → σ → Prop} {Ok : σ → Nat → Prop} {w0 W W' : World} {s s' : σ} {F0 F F' E : Nat → Prop} {L D : List (Value × List Int)} {k0 mode0 x0 y0 : Int} {ms0 : List Int} {lv0 : Value} {vs0 : List Value}
/-- A list of zeros is made, and laid into the box. -/
theorem RB.addS (H : IsCoder M fB fF me At Ok) (h : RB At w0 F0 k0 mode0 ms0 x0 y0 lv0 vs0 L s W F) (i : Nat) (hi : i = vs0.length) (h4 : i < 4) :
    RB At w0 F0 k0 mode0 ms0 x0 y0 lv0 (vs0 ++ [.slice (some ⟨W.heap.size, 0, none⟩) 16 16]) ((.slice (some ⟨W.heap.size, 0, none⟩) 16 16, zerosL 16) :: L) s ((W.alloc (.cells ((zerosL 16).map intV).toArray 3)).setCell ⟨w0.heap.size, 9 + i, none⟩ (.slice (some ⟨W.heap.size, 0, none⟩) 16 16)) F := by
  have hal : Below W.heap.size W (W.alloc (.cells ((zerosL 16).map intV).toArray 3)) := (Below.refl _ _).alloc (Nat.le_refl _) _
  have h1 := h.below H hal
  have hnew := noff_new (n := 16) (l := zerosL 16) (F := F) (Blk.new W 3 ((zerosL 16).map intV).toArray) rfl (by decide +kernel) (fun hF => by have := H.there _ _ _ _ h.c.c.a hF; omega)
  have hob : ∀ k, (Value.slice (some ⟨W.heap.size, 0, none⟩) 16 16).ownBlock = some k → ¬ boxE w0 k := fun k hk e => by
    have e2 : W.heap.size = k := by simpa [Value.ownBlock] using hk
    have := (h.c.e k e).2.1
    omega
  exact ⟨(h1.c.addL hnew hob).put H (.inl rfl) _ _, h1.box.putS i hi h4 _, h1.res.far (p := ⟨w0.heap.size, 9 + i, none⟩) (by show w0.heap.size + 1 ≠ w0.heap.size; omega) _, h1.rer.far (p := ⟨w0.heap.size, 9 + i, none⟩) (by show w0.heap.size + 1 + 1 ≠ w0.heap.size; omega) _⟩
theorem RB.box4 {ms : List Int} {vs : List Value} (h : RB At w0 F0 k0 mode0 ms0 x0 y0 lv0 vs0 L s W F) (hm : ∀ j, j < 4 → ms0.getD j 0 = ms.getD j 0) (hv : ∀ j, j < 4 → vs0.getD j nilS = vs.getD j nilS) : RB At w0 F0 k0 mode0 ms x0 y0 lv0 vs L s W F :=
  ⟨h.c, h.box.getD4 hm hv, h.res, h.rer⟩
theorem RB.addL {v : Value} {l : List Int} (h : RB At w0 F0 k0 mode0 ms0 x0 y0 lv0 vs0 L s W F) (hl : NOff v l W F) (hE : ∀ k, v.ownBlock = some k → ¬ boxE w0 k) : RB At w0 F0 k0 mode0 ms0 x0 y0 lv0 vs0 ((v, l) :: L) s W F :=
  ⟨h.c.addL hl hE, h.box, h.res, h.rer⟩
/-- What the call has come to ahead of the square's kind. -/
structure RP (M : Mach σ) (At : World → (Nat → Prop) → σ → Prop) (w : World) (F : Nat → Prop) (pr : Ask R20) (key : Bool) (st : σ) (kk : Int) (L : List (Value × List Int)) (s : SqS) (m0 m1 m2 m3 : Int) (lv v0 v1 v2 v3 : Value) (l0 l1 l2 l3 : List Int) (W : World) : Prop where
  pr : pr = codeA key s
  t : RB At w F s.kind s.mode [m0, m1, m2, m3] s.x s.y lv [v0, v1, v2, v3] L st W F
  em : s.modes = [m0, m1, m2, m3]
  es : s.small = [l0, l1, l2, l3]
  k : 0 ≤ s.kind ∧ s.kind ≤ 3
  hd : (M.run (headA key s.kind) st).1 = kk
  e3 : kk = 3 → ∀ p ∈ [(v0, l0), (v1, l1), (v2, l2), (v3, l3)], p ∈ L ∧ p.2.length = 16 ∧ p.2.any lvOut = false
  e12 : kk = 1 ∨ kk = 2 → (lv, s.large) ∈ L ∧ s.large.length = 64 ∧ s.large.any lvOut = false
/-- .. and behind it. -/
structure RU (M : Mach σ) (At : World → (Nat → Prop) → σ → Prop) (w : World) (F : Nat → Prop) (pr : Ask R20) (st : σ) (kk : Int) (L : List (Value × List Int)) (s : SqS) (m0 m1 m2 m3 : Int) (lv v0 v1 v2 v3 : Value) (l0 l1 l2 l3 : List Int) (ob : Nat) (st6 : σ) (W : World) (F6 : Nat → Prop) : Prop where
  pr : M.run pr st = M.run (restA kk s) st6
  t : RT At w F ob s.kind s.mode [m0, m1, m2, m3] s.x s.y lv [v0, v1, v2, v3] L [] kk 0 [] 0 0 nilS [] 0 nilS st6 W F6
  em : s.modes = [m0, m1, m2, m3]
  es : s.small = [l0, l1, l2, l3]
  e3 : kk = 3 → ∀ p ∈ [(v0, l0), (v1, l1), (v2, l2), (v3, l3)], p ∈ L ∧ p.2.length = 16 ∧ p.2.any lvOut = false
  e12 : kk = 1 ∨ kk = 2 → (lv, s.large) ∈ L ∧ s.large.length = 64 ∧ s.large.any lvOut = false
theorem RU.of {w W0 W6 : World} {F F6 : Nat → Prop} {pr : Ask R20} {key : Bool} {st st6 : σ} {kk : Int} {s : SqS} {m0 m1 m2 m3 : Int} {lv v0 v1 v2 v3 : Value} {l0 l1 l2 l3 : List Int} (H : IsCoder M fB fF me At Ok) (h : RP M At w F pr key st kk L s m0 m1 m2 m3 lv v0 v1 v2 v3 l0 l1 l2 l3 W0) (c : CW At W0 F st6 W6 F6) (hd : M.run (headA key s.kind) st = (kk, st6)) :
    RU M At w F pr st kk L s m0 m1 m2 m3 lv v0 v1 v2 v3 l0 l1 l2 l3 W6.heap.size st6 ((W6.alloc (.cells #[.int .i64 kk, .int .i64 0, .int .i64 0, .int .i64 0, .int .i64 0, .int .i64 0, .int .i64 0, .int .i64 0, nilS, nilS, nilS, nilS, nilS] 42)).alloc (.cells #[.int .i64 0, nilS] 46)) F6 := by
  refine ⟨?_, (h.t.code c).tail H kk, h.em, h.es, h.e3, h.e12⟩
  rw [h.pr]
  show M.run ((headA key s.kind).bind fun k => restA k s) st = _
  rw [run_bind, hd]
/-! ### Steps of a path beside the call's blocks -/
def NoStr (cs : Array Value) : Prop := ∀ (i : Nat) (s : ByteArray), cs[i]? ≠ some (.string s)
def IsSl (v : Value) : Prop := ∃ A n c, v = .slice A n c
theorem IsSl.of (A : Option Addr) (n c : Nat) : IsSl (.slice A n c) := ⟨A, n, c, rfl⟩
theorem NoStr.set {cs : Array Value} (h : NoStr cs) (i : Nat) {u : Value} (hu : ∀ s, u ≠ .string s) : NoStr (cs.setIfInBounds i u) := by
  intro j s e
  rw [Array.getElem?_setIfInBounds] at e
  split at e
  · split at e
    · injection e with e
      exact hu s e
    · cases e
  · exact h j s e
theorem Steps.offB {W : World} {pv : Value} {q : PathS} {g : Nat} {t : TypeId} {cs : Array Value} (h : Steps W pv q) (hb : Blk W g t cs) (hs : NoStr cs) (i : Nat) (u : Value) : Steps (W.setCell ⟨g, i, none⟩ u) pv q := by
  obtain ⟨A, c, rfl, h2⟩ := h
  refine ⟨A, c, rfl, fun hne => ?_⟩
  obtain ⟨b, off, rfl, h4, h5⟩ := h2 hne
  have hbg : b ≠ g := by
    rintro rfl
    obtain ⟨a, ha⟩ : ∃ a, q[0]? = some a := by
      cases q with
      | nil => exact absurd rfl hne
      | cons a r => exact ⟨a, rfl⟩
    have h6 := (h5 0 a ha).1
    rw [hb.cell] at h6
    exact hs _ _ h6
  have o : Only (fun k => k = g) W (W.setCell ⟨g, i, none⟩ u) := Only.put (S := fun k => k = g) (Only.refl _ _) rfl i u
  refine ⟨b, off, rfl, Nat.lt_of_lt_of_le h4 o.size, fun j a ha => ?_⟩
  obtain ⟨h6, h7⟩ := h5 j a ha
  exact ⟨(World.cell?_of_block (w := W) (a := ⟨b, off + j * 2, none⟩) (o.block b h4 hbg)).trans h6, (World.cell?_of_block (w := W) (a := ⟨b, off + j * 2 + 1, none⟩) (o.block b h4 hbg)).trans h7⟩
theorem Steps.form {W : World} {pv : Value} {q : PathS} (h : Steps W pv q) : IsSl pv := by
  obtain ⟨A, c, rfl, _⟩ := h
  exact ⟨_, _, _, rfl⟩
theorem IsSl.ne {v : Value} (h : IsSl v) (s : ByteArray) : v ≠ .string s := by
  obtain ⟨A, n, c, rfl⟩ := h
  intro e
  cases e
/-- A path, and a block that holds no string. -/
def StB (W : World) (pv : Value) (q : PathS) (g : Nat) (t : TypeId) : Prop := Steps W pv q ∧ ∃ cs, Blk W g t cs ∧ NoStr cs
theorem StB.put {W : World} {pv : Value} {q : PathS} {g : Nat} {t : TypeId} (h : StB W pv q g t) (i : Nat) {u : Value} (hu : ∀ s, u ≠ .string s) : StB (W.setCell ⟨g, i, none⟩ u) pv q g t := by
  obtain ⟨hs, cs, hb, hn⟩ := h
  exact ⟨hs.offB hb hn i u, _, hb.put i u, hn.set i hu⟩
theorem int_ne (z : Int) (s : ByteArray) : Value.int .i64 z ≠ .string s := by intro e; cases e
theorem SqBlk.nostr {W : World} {ob : Nat} {ty : TypeId} {k mode x y : Int} {ms : List Int} {lv : Value} {vs : List Value} (h : SqBlk W ob ty k mode ms x y lv vs) (hl : IsSl lv) (hv : ∀ j, j < 4 → IsSl (vs.getD j nilS)) : ∃ cs, Blk W ob ty cs ∧ NoStr cs := by
  obtain ⟨cs, hb, hsz, h0, h1, hm, hx, hy, h8, h9⟩ := h
  refine ⟨cs, hb, fun i s e => ?_⟩
  have hi : i < 13 := by have := (Array.getElem?_eq_some_iff.1 e).1; omega
  have hc : i = 0 ∨ i = 1 ∨ (2 ≤ i ∧ i < 6) ∨ i = 6 ∨ i = 7 ∨ i = 8 ∨ (9 ≤ i ∧ i < 13) := by omega
  rcases hc with rfl | rfl | hc | rfl | rfl | rfl | hc
  · rw [h0] at e; injection e with e; exact int_ne _ _ e
  · rw [h1] at e; injection e with e; exact int_ne _ _ e
  · have h := hm (i - 2) (by omega)
    rw [show 2 + (i - 2) = i by omega, e] at h
    injection h with h
    exact int_ne _ _ h.symm
  · rw [hx] at e; injection e with e; exact int_ne _ _ e
  · rw [hy] at e; injection e with e; exact int_ne _ _ e
  · rw [h8] at e; injection e with e; exact hl.ne _ e
  · have h := h9 (i - 9) (by omega)
    rw [show 9 + (i - 9) = i by omega, e] at h
    injection h with h
    exact (hv (i - 9) (by omega)).ne _ h.symm
theorem nostr2 {z : Int} {v : Value} (h : IsSl v) : NoStr #[.int .i64 z, v] := by
  intro i s e
  match i, e with
  | 0, e => injection e with e; exact int_ne _ _ e
  | 1, e => injection e with e; exact h.ne _ e
theorem sl_nil4 (j : Nat) (_ : j < 4) : IsSl (([] : List Value).getD j nilS) := by simp [IsSl]
theorem StB.put13 {W : World} {pv : Value} {qs : PathS} {r : Nat} {t : TypeId} (h : StB W pv qs r t) (k mode m0 m1 m2 m3 x y : Int) {lv v0 v1 v2 v3 : Value} (hl : IsSl lv) (h0 : IsSl v0) (h1 : IsSl v1) (h2 : IsSl v2) (h3 : IsSl v3) : StB (((((((((((((W.setCell ⟨r, 0, none⟩ (.int .i64 k)).setCell ⟨r, 1, none⟩ (.int .i64 mode)).setCell ⟨r, 2, none⟩ (.int .i64 m0)).setCell ⟨r, 3, none⟩ (.int .i64 m1)).setCell ⟨r, 4, none⟩ (.int .i64 m2)).setCell ⟨r, 5, none⟩ (.int .i64 m3)).setCell ⟨r, 6, none⟩ (.int .i64 x)).setCell ⟨r, 7, none⟩ (.int .i64 y)).setCell ⟨r, 8, none⟩ (lv)).setCell ⟨r, 9, none⟩ (v0)).setCell ⟨r, 10, none⟩ (v1)).setCell ⟨r, 11, none⟩ (v2)).setCell ⟨r, 12, none⟩ (v3)) pv qs r t :=
  (((((((((((((h.put 0 (int_ne _)).put 1 (int_ne _)).put 2 (int_ne _)).put 3 (int_ne _)).put 4 (int_ne _)).put 5 (int_ne _)).put 6 (int_ne _)).put 7 (int_ne _)).put 8 hl.ne).put 9 h0.ne).put 10 h1.ne).put 11 h2.ne).put 12 h3.ne)
/-! ### The end -/
theorem RC.fin (H : IsCoder M fB fF me At Ok) (h : RC At w0 F0 E L D s W F) {r q : Nat} (hr : E r) (hq : E q) (k mode m0 m1 m2 m3 x y ec : Int) (lv v0 v1 v2 v3 ep : Value) : RC At w0 F0 E L D s (((((((((((((((W.setCell ⟨r, 0, none⟩ (.int .i64 k)).setCell ⟨r, 1, none⟩ (.int .i64 mode)).setCell ⟨r, 2, none⟩ (.int .i64 m0)).setCell ⟨r, 3, none⟩ (.int .i64 m1)).setCell ⟨r, 4, none⟩ (.int .i64 m2)).setCell ⟨r, 5, none⟩ (.int .i64 m3)).setCell ⟨r, 6, none⟩ (.int .i64 x)).setCell ⟨r, 7, none⟩ (.int .i64 y)).setCell ⟨r, 8, none⟩ (lv)).setCell ⟨r, 9, none⟩ (v0)).setCell ⟨r, 10, none⟩ (v1)).setCell ⟨r, 11, none⟩ (v2)).setCell ⟨r, 12, none⟩ (v3)).setCell ⟨q, 0, none⟩ (.int .i64 ec)).setCell ⟨q, 1, none⟩ ep) F :=
  (((((((((((((((h.put H hr 0 (.int .i64 k)).put H hr 1 (.int .i64 mode)).put H hr 2 (.int .i64 m0)).put H hr 3 (.int .i64 m1)).put H hr 4 (.int .i64 m2)).put H hr 5 (.int .i64 m3)).put H hr 6 (.int .i64 x)).put H hr 7 (.int .i64 y)).put H hr 8 lv).put H hr 9 v0).put H hr 10 v1).put H hr 11 v2).put H hr 12 v3).put H hq 0 (.int .i64 ec)).put H hq 1 ep)
theorem fin_z {W : World} {r q : Nat} {ty tq : TypeId} {k0 mode0 x0 y0 : Int} {ms0 : List Int} {lv0 a b : Value} {vs0 : List Value} (h : SqBlk W r ty k0 mode0 ms0 x0 y0 lv0 vs0) (hq : Blk W q tq #[a, b]) (hne : r ≠ q) (k mode m0 m1 m2 m3 x y ec : Int) (lv v0 v1 v2 v3 ep : Value) :
    SqBlk (((((((((((((((W.setCell ⟨r, 0, none⟩ (.int .i64 k)).setCell ⟨r, 1, none⟩ (.int .i64 mode)).setCell ⟨r, 2, none⟩ (.int .i64 m0)).setCell ⟨r, 3, none⟩ (.int .i64 m1)).setCell ⟨r, 4, none⟩ (.int .i64 m2)).setCell ⟨r, 5, none⟩ (.int .i64 m3)).setCell ⟨r, 6, none⟩ (.int .i64 x)).setCell ⟨r, 7, none⟩ (.int .i64 y)).setCell ⟨r, 8, none⟩ (lv)).setCell ⟨r, 9, none⟩ (v0)).setCell ⟨r, 10, none⟩ (v1)).setCell ⟨r, 11, none⟩ (v2)).setCell ⟨r, 12, none⟩ (v3)).setCell ⟨q, 0, none⟩ (.int .i64 ec)).setCell ⟨q, 1, none⟩ ep) r ty k mode [m0, m1, m2, m3] x y lv [v0, v1, v2, v3] ∧ Blk (((((((((((((((W.setCell ⟨r, 0, none⟩ (.int .i64 k)).setCell ⟨r, 1, none⟩ (.int .i64 mode)).setCell ⟨r, 2, none⟩ (.int .i64 m0)).setCell ⟨r, 3, none⟩ (.int .i64 m1)).setCell ⟨r, 4, none⟩ (.int .i64 m2)).setCell ⟨r, 5, none⟩ (.int .i64 m3)).setCell ⟨r, 6, none⟩ (.int .i64 x)).setCell ⟨r, 7, none⟩ (.int .i64 y)).setCell ⟨r, 8, none⟩ (lv)).setCell ⟨r, 9, none⟩ (v0)).setCell ⟨r, 10, none⟩ (v1)).setCell ⟨r, 11, none⟩ (v2)).setCell ⟨r, 12, none⟩ (v3)).setCell ⟨q, 0, none⟩ (.int .i64 ec)).setCell ⟨q, 1, none⟩ ep) q tq #[.int .i64 ec, ep] := by
  have h1 := h.set13 k mode m0 m1 m2 m3 x y lv v0 v1 v2 v3
  have h2 := hq.keep (only13 W r k mode m0 m1 m2 m3 x y lv v0 v1 v2 v3) (fun e => hne e.symm)
  generalize ((((((((((((W.setCell ⟨r, 0, none⟩ (.int .i64 k)).setCell ⟨r, 1, none⟩ (.int .i64 mode)).setCell ⟨r, 2, none⟩ (.int .i64 m0)).setCell ⟨r, 3, none⟩ (.int .i64 m1)).setCell ⟨r, 4, none⟩ (.int .i64 m2)).setCell ⟨r, 5, none⟩ (.int .i64 m3)).setCell ⟨r, 6, none⟩ (.int .i64 x)).setCell ⟨r, 7, none⟩ (.int .i64 y)).setCell ⟨r, 8, none⟩ (lv)).setCell ⟨r, 9, none⟩ (v0)).setCell ⟨r, 10, none⟩ (v1)).setCell ⟨r, 11, none⟩ (v2)).setCell ⟨r, 12, none⟩ (v3) = W1 at *
  exact ⟨(h1.far (p := ⟨q, 0, none⟩) hne _).far (p := ⟨q, 1, none⟩) hne _, (h2.put 0 _).put 1 _⟩
variable {ob : Nat} {k mode x y ec : Int} {ms : List Int} {lv ep : Value} {vs : List Value}
/-- What the last stores want. -/
theorem RT.res13 (h : RT At w0 F0 ob k0 mode0 ms0 x0 y0 lv0 vs0 L D k mode ms x y lv vs ec ep s W F) :
    (((W.cell? ⟨w0.heap.size + 1, 0, none⟩ = some (.int .i64 0) ∧ W.cell? ⟨w0.heap.size + 1, 1, none⟩ = some (.int .i64 0)) ∧ (W.cell? ⟨w0.heap.size + 1, 2, none⟩ = some (.int .i64 0) ∧ W.cell? ⟨w0.heap.size + 1, 3, none⟩ = some (.int .i64 0) ∧ W.cell? ⟨w0.heap.size + 1, 4, none⟩ = some (.int .i64 0) ∧ W.cell? ⟨w0.heap.size + 1, 5, none⟩ = some (.int .i64 0)) ∧
    (W.cell? ⟨w0.heap.size + 1, 6, none⟩ = some (.int .i64 0) ∧ W.cell? ⟨w0.heap.size + 1, 7, none⟩ = some (.int .i64 0) ∧ W.cell? ⟨w0.heap.size + 1, 8, none⟩ = some nilS) ∧ (W.cell? ⟨w0.heap.size + 1, 9, none⟩ = some nilS ∧ W.cell? ⟨w0.heap.size + 1, 10, none⟩ = some nilS ∧ W.cell? ⟨w0.heap.size + 1, 11, none⟩ = some nilS ∧ W.cell? ⟨w0.heap.size + 1, 12, none⟩ = some nilS)) ∧ (∀ i, W.frozen? ⟨w0.heap.size + 1, i, none⟩ = false)) ∧
    (W.cell? ⟨w0.heap.size + 1 + 1, 0, none⟩ = some (.int .i64 0) ∧ W.cell? ⟨w0.heap.size + 1 + 1, 1, none⟩ = some nilS) ∧ (W.frozen? ⟨w0.heap.size + 1 + 1, 0, none⟩ = false ∧ W.frozen? ⟨w0.heap.size + 1 + 1, 1, none⟩ = false) ∧ (W.cell? ⟨ob + 1, 0, none⟩ = some (.int .i64 ec) ∧ W.cell? ⟨ob + 1, 1, none⟩ = some ep) :=
  ⟨⟨h.res.all4', h.res.frozen⟩, blk2R h.rer, ⟨h.rer.frozen 0, h.rer.frozen 1⟩, blk2R h.er⟩
theorem RT.stepsO {pv : Value} {q : PathS} (h : RT At w0 F0 ob k0 mode0 ms0 x0 y0 lv0 vs0 L D k mode ms x y lv vs ec ep s W F) (hs : Steps W pv q) (hl : IsSl lv) (hv : ∀ j, j < 4 → IsSl (vs.getD j nilS)) (i : Nat) (u : Value) : Steps (W.setCell ⟨ob, i, none⟩ u) pv q := by
  obtain ⟨cs, hb, hn⟩ := h.out.nostr hl hv
  exact hs.offB hb hn i u
theorem RT.stepsE {pv : Value} {q : PathS} (h : RT At w0 F0 ob k0 mode0 ms0 x0 y0 lv0 vs0 L D k mode ms x y lv vs ec ep s W F) (hs : Steps W pv q) (he : IsSl ep) (ec' : Int) (ep' : Value) : Steps ((W.setCell ⟨ob + 1, 0, none⟩ (.int .i64 ec')).setCell ⟨ob + 1, 1, none⟩ ep') pv q :=
  (hs.offB h.er (nostr2 he) 0 _).offB (h.er.put 0 (.int .i64 ec')) ((nostr2 he).set 0 (int_ne _)) 1 _
/-- The answer of the document's Code at a coder. -/
def RSCodeRes (M : Mach σ) (At : World → (Nat → Prop) → σ → Prop) (w0 : World) (F0 : Nat → Prop) (p : Ask R20) (s : σ) (e : Ending) (w' : World) : Prop :=
  ∃ F, CW At w0 F0 (M.run p s).2 w' F ∧
    match (M.run p s).1.1 with
    | none => ∃ v, e = .returned (.tuple #[v, errA 0]) ∧ SqVal w0 w' F v (M.run p s).1.2
    | some i => ∃ pv, e = .returned (.tuple #[zeroV, .agg #[.int .i64 3, pv]]) ∧ Steps w' pv [(⟨#[115, 121, 110, 116, 97, 120]⟩, (M.run p s).1.2.kind), (⟨#[99, 111, 101, 102]⟩, (i : Int))]
theorem RT.fin_bad {q : PathS} {pv : Value} (h : RT At w0 F0 ob k0 mode0 ms0 x0 y0 lv0 vs0 L D k mode ms x y lv vs ec ep s W F) (hs : Steps W pv q) (ec' : Int) (ep' : Value) (hp : IsSl ep') :
    Steps (((((((((((((((W.setCell ⟨w0.heap.size + 1, 0, none⟩ (.int .i64 0)).setCell ⟨w0.heap.size + 1, 1, none⟩ (.int .i64 0)).setCell ⟨w0.heap.size + 1, 2, none⟩ (.int .i64 0)).setCell ⟨w0.heap.size + 1, 3, none⟩ (.int .i64 0)).setCell ⟨w0.heap.size + 1, 4, none⟩ (.int .i64 0)).setCell ⟨w0.heap.size + 1, 5, none⟩ (.int .i64 0)).setCell ⟨w0.heap.size + 1, 6, none⟩ (.int .i64 0)).setCell ⟨w0.heap.size + 1, 7, none⟩ (.int .i64 0)).setCell ⟨w0.heap.size + 1, 8, none⟩ (nilS)).setCell ⟨w0.heap.size + 1, 9, none⟩ (nilS)).setCell ⟨w0.heap.size + 1, 10, none⟩ (nilS)).setCell ⟨w0.heap.size + 1, 11, none⟩ (nilS)).setCell ⟨w0.heap.size + 1, 12, none⟩ (nilS)).setCell ⟨w0.heap.size + 1 + 1, 0, none⟩ (.int .i64 ec')).setCell ⟨w0.heap.size + 1 + 1, 1, none⟩ ep') pv q := by
  have h1 : StB W pv q (w0.heap.size + 1) 42 := ⟨hs, h.res.nostr (IsSl.of _ _ _) sl_nil4⟩
  have h2 := h1.put13 0 0 0 0 0 0 0 0 (IsSl.of none 0 0) (IsSl.of none 0 0) (IsSl.of none 0 0) (IsSl.of none 0 0) (IsSl.of none 0 0)
  have h3 := h.rer.keep (only13 W (w0.heap.size + 1) 0 0 0 0 0 0 0 0 nilS nilS nilS nilS nilS) (by show ¬ w0.heap.size + 1 + 1 = w0.heap.size + 1; omega)
  exact ((StB.put (t := 46) ⟨h2.1, _, h3, nostr2 (IsSl.of _ _ _)⟩ 0 (int_ne ec')).put 1 hp.ne).1
/-- The document's square asks as the other does. -/
theorem rcode_al {p p' : Ask SqR} {e : Ending} (h : ∀ s, M.run p s = M.run p' s) (hr : RCodeRes M At w0 F0 p s e W') : RCodeRes M At w0 F0 p' s e W' := by
  unfold RCodeRes at hr ⊢
  rw [← h]
  exact hr
theorem rsq_ans {r : SqR} {e : Ending} {n : Nat} (hok : SqOk n r) (h : RSqAns w0 r F e W') :
    (∃ o g, r = (none, o) ∧ o.length = n ∧ e = .returned (.tuple #[.slice (some ⟨g, 0, none⟩) n n, errA 0]) ∧ BOff w0 g o W' F) ∨ (∃ i pv, r = (some i, []) ∧ e = .returned (.tuple #[nilS, .agg #[.int .i64 3, pv]]) ∧ Steps W' pv [(⟨#[99, 111, 101, 102]⟩, (i : Int))]) := by
  obtain ⟨ro, rl⟩ := r
  rcases hok with ⟨q1, q2, q3⟩ | ⟨i, q1, q2, q3⟩
  · dsimp only at q1 q2 q3
    subst q1
    obtain ⟨g, rfl, hb⟩ := h
    exact .inl ⟨rl, g, rfl, q2, by rw [← q2], hb⟩
  · dsimp only at q1 q2 q3
    subst q1 q3
    obtain ⟨pv, rfl, hv⟩ := h
    exact .inr ⟨i, pv, rfl, rfl, hv⟩
end
end Go.Proofs.YtkkgpdejmcpcpaaGreatDoor

