/- Parts: XSynE. -/
import Derived.Test.YtkkgpdejmcpcpaaGreatDoorM27
import Derived.Deep.CutBlock
/- Chapter 20: syntax.Code at whatever coder. -/
namespace Go.Proofs.YtkkgpdejmcpcpaaGreatDoor
open Go.RowKit
theorem assert_wr (b : Nat) (w : World) : (Instr.typeAssert (.iface 25 (.pointer (some ⟨b, 0, none⟩))) 87 61 true).run Tryz.prog w = .ok (.tuple #[.pointer none, .bool false]) w := by kernel_rfl
set_option maxRecDepth 100000 in
theorem reads_wr (b : Nat) (w : World) : Calls Tryz.prog 32 #[.iface 25 (.pointer (some ⟨b, 0, none⟩))] w fun e w' => e = .returned (.bool false) ∧ w' = w := by
  have h := assert_wr b w
  go_enter Tryz.func32, Tryz.ntmps32
  go_wp2_with fail
  go_ret
  exact ⟨rfl, rfl⟩
theorem assert_rd (b : Nat) (w : World) : (Instr.typeAssert (.iface 61 (.pointer (some ⟨b, 0, none⟩))) 87 61 true).run Tryz.prog w = .ok (.tuple #[.pointer (some ⟨b, 0, none⟩), .bool true]) w := by kernel_rfl
set_option maxRecDepth 100000 in
theorem reads_rd (b : Nat) (w : World) : Calls Tryz.prog 32 #[.iface 61 (.pointer (some ⟨b, 0, none⟩))] w fun e w' => e = .returned (.bool true) ∧ w' = w := by
  have h := assert_rd b w
  go_enter Tryz.func32, Tryz.ntmps32
  go_wp2_with fail
  go_ret
  exact ⟨rfl, rfl⟩
abbrev zeroV : Value := sqV 0 0 0 0 0 0 0 0 nilS nilS nilS nilS nilS
section
variable {σ : Type} {M : Mach σ} {fB fF : FuncId} {me : Value} {At : World → (Nat → Prop) → σ → Prop} {Ok : σ → Nat → Prop} {w0 W W' : World} {s s' : σ} {F0 F F' : Nat → Prop} {ob bb rb : Nat} {k0 mode0 x0 y0 : Int} {ms0 : List Int} {lv0 : Value} {vs0 : List Value} {L : List (Value × List Int)}
/-- The coder, the square in its box, the square to be answered, lists away from the coder. -/
structure TQ (At : World → (Nat → Prop) → σ → Prop) (w0 : World) (F0 : Nat → Prop) (bb rb : Nat) (k0 mode0 : Int) (ms0 : List Int) (x0 y0 : Int) (lv0 : Value) (vs0 : List Value) (L : List (Value × List Int)) (s : σ) (W : World) (F : Nat → Prop) : Prop where
  c : CW At w0 F0 s W F
  box : SqBlk W bb 36 k0 mode0 ms0 x0 y0 lv0 vs0
  res : SqBlk W rb 36 0 0 [] 0 0 nilS []
  bF : ¬ F bb
  rF : ¬ F rb
  bw : w0.heap.size ≤ bb
  rw : w0.heap.size ≤ rb
  ne : bb ≠ rb
  ls : ∀ p ∈ L, NOff p.1 p.2 W F
  lb : ∀ p ∈ L, ∀ k, p.1.ownBlock = some k → k ≠ bb
theorem TQ.code (h : TQ At w0 F0 bb rb k0 mode0 ms0 x0 y0 lv0 vs0 L s W F) (c : CW At W F s' W' F') : TQ At w0 F0 bb rb k0 mode0 ms0 x0 y0 lv0 vs0 L s' W' F' :=
  ⟨h.c.moved c.a c.o c.f, h.box.keep c.o h.bF, h.res.keep c.o h.rF, fun hF => by
    rcases c.f bb hF with e | e
    · exact h.bF e
    · have := h.box.lt; omega, fun hF => by
    rcases c.f rb hF with e | e
    · exact h.rF e
    · have := h.res.lt; omega, h.bw, h.rw, h.ne, fun p hp => (h.ls p hp).moved c.o c.f, h.lb⟩
theorem TQ.below (H : IsCoder M fB fF me At Ok) (h : TQ At w0 F0 bb rb k0 mode0 ms0 x0 y0 lv0 vs0 L s W F) (hb : Below W.heap.size W W') : TQ At w0 F0 bb rb k0 mode0 ms0 x0 y0 lv0 vs0 L s W' F :=
  ⟨h.c.below H hb, h.box.below hb, h.res.below hb, h.bF, h.rF, h.bw, h.rw, h.ne, fun p hp => (h.ls p hp).below hb, h.lb⟩
/-- A square that is told, as a value. -/
def SqVal (w0 W : World) (F : Nat → Prop) (v : Value) (t : SqS) : Prop :=
  ∃ m0 m1 m2 m3 lv v0 v1 v2 v3 l0 l1 l2 l3, v = sqV t.kind t.mode m0 m1 m2 m3 t.x t.y lv v0 v1 v2 v3 ∧ t.modes = [m0, m1, m2, m3] ∧ t.small = [l0, l1, l2, l3] ∧ Lst w0 lv t.large W F ∧ Lst w0 v0 l0 W F ∧ Lst w0 v1 l1 W F ∧ Lst w0 v2 l2 W F ∧ Lst w0 v3 l3 W F
def SCodeRes (M : Mach σ) (At : World → (Nat → Prop) → σ → Prop) (w0 : World) (F0 : Nat → Prop) (p : Ask R20) (s : σ) (e : Ending) (w' : World) : Prop :=
  ∃ F, CW At w0 F0 (M.run p s).2 w' F ∧
    match (M.run p s).1.1 with
    | none => ∃ v, e = .returned (.tuple #[v, .nilIface]) ∧ SqVal w0 w' F v (M.run p s).1.2
    | some i => ∃ ev, e = .returned (.tuple #[zeroV, ev]) ∧ ErrV w' 3 [(⟨#[115, 121, 110, 116, 97, 120]⟩, (M.run p s).1.2.kind), (⟨#[99, 111, 101, 102]⟩, (i : Int))] ev
theorem rest_kind (M : Mach σ) (k : Int) (s : SqS) (t : σ) : (M.run (restA k s) t).1.2.kind = k := by
  have h : (restA k s).All fun r => r.2.kind = k := by
    unfold restA restG
    split
    · rename_i e; exact All.bind (All.true _) fun _ _ => e.symm
    · split
      · rename_i e; exact e.symm
      · split
        · rename_i e; exact All.bind (All.true _) fun _ _ => All.bind (All.true _) fun _ _ => All.bind (All.true _) fun _ _ => e.symm
        · exact All.bind (All.true _) fun _ _ => All.bind (All.true _) fun _ _ => rfl
  exact All.run M h t
theorem TQ.start (H : IsCoder M fB fF me At Ok) {k mode m0 m1 m2 m3 x y : Int} {lv v0 v1 v2 v3 : Value} (hs : At w0 F s) (hL : ∀ p ∈ L, NOff p.1 p.2 w0 F) :
    TQ At w0 F w0.heap.size (w0.heap.size + 1) k mode [m0, m1, m2, m3] x y lv [v0, v1, v2, v3] L s ((w0.alloc (.cells #[.int .i64 k, .int .i64 mode, .int .i64 m0, .int .i64 m1, .int .i64 m2, .int .i64 m3, .int .i64 x, .int .i64 y, lv, v0, v1, v2, v3] 36)).alloc (.cells #[.int .i64 0, .int .i64 0, .int .i64 0, .int .i64 0, .int .i64 0, .int .i64 0, .int .i64 0, .int .i64 0, nilS, nilS, nilS, nilS, nilS] 36)) F := by
  obtain ⟨w1, hw1⟩ : ∃ q, q = w0.alloc (.cells #[.int .i64 k, .int .i64 mode, .int .i64 m0, .int .i64 m1, .int .i64 m2, .int .i64 m3, .int .i64 x, .int .i64 y, lv, v0, v1, v2, v3] 36) := ⟨_, rfl⟩
  have hb1 : Below w0.heap.size w0 w1 := by rw [hw1]; exact (Below.refl _ _).alloc (Nat.le_refl _) _
  have hz : w1.heap.size = w0.heap.size + 1 := by rw [hw1]; simp
  have hbox : SqBlk w1 w0.heap.size 36 k mode [m0, m1, m2, m3] x y lv [v0, v1, v2, v3] := by rw [hw1]; exact SqBlk.of (Blk.new _ _ _) rfl
  rw [← hw1]
  have hb2 : Below w1.heap.size w1 (w1.alloc (.cells #[.int .i64 0, .int .i64 0, .int .i64 0, .int .i64 0, .int .i64 0, .int .i64 0, .int .i64 0, .int .i64 0, nilS, nilS, nilS, nilS, nilS] 36)) := (Below.refl _ _).alloc (Nat.le_refl _) _
  have hres : SqBlk (w1.alloc (.cells #[.int .i64 0, .int .i64 0, .int .i64 0, .int .i64 0, .int .i64 0, .int .i64 0, .int .i64 0, .int .i64 0, nilS, nilS, nilS, nilS, nilS] 36)) w1.heap.size 36 0 0 [] 0 0 nilS [] := SqBlk.new (Blk.new _ _ _) rfl
  rw [hz] at hres
  refine ⟨((CW.start hs).below H hb1).below H hb2, hbox.below hb2, hres, fun h => ?_, fun h => ?_, Nat.le_refl _, by omega, by omega, fun p hp => ((hL p hp).below hb1).below hb2, fun p hp k hk => ?_⟩
  · have := H.there _ _ _ _ hs h; omega
  · have := H.there _ _ _ _ hs h; omega
  · have := (hL p hp).b k hk; omega
theorem TQ.addL {v : Value} {l : List Int} (h : TQ At w0 F0 bb rb k0 mode0 ms0 x0 y0 lv0 vs0 L s W F) (hn : NOff v l W F) (hb : ∀ k, v.ownBlock = some k → k ≠ bb) : TQ At w0 F0 bb rb k0 mode0 ms0 x0 y0 lv0 vs0 ((v, l) :: L) s W F :=
  ⟨h.c, h.box, h.res, h.bF, h.rF, h.bw, h.rw, h.ne, fun p hp => by
    rcases List.mem_cons.1 hp with rfl | hp
    · exact hn
    · exact h.ls p hp, fun p hp => by
    rcases List.mem_cons.1 hp with rfl | hp
    · exact hb
    · exact h.lb p hp⟩
theorem TQ.box4 {ms vs} (h : TQ At w0 F0 bb rb k0 mode0 ms0 x0 y0 lv0 vs0 L s W F) (hm : ∀ j, j < 4 → ms0.getD j 0 = ms.getD j 0) (hv : ∀ j, j < 4 → vs0.getD j nilS = vs.getD j nilS) : TQ At w0 F0 bb rb k0 mode0 ms x0 y0 lv0 vs L s W F :=
  ⟨h.c, h.box.getD4 hm hv, h.res, h.bF, h.rF, h.bw, h.rw, h.ne, h.ls, h.lb⟩
/-- The square answered is told behind the coder's last step. -/
theorem TQ.done {W6 W7 : World} {F6 F7 : Nat → Prop} (h : TQ At w0 F0 bb rb k0 mode0 ms0 x0 y0 lv0 vs0 L s W6 F6) (hp : PW At W6 F6 ob s' W7 F7) (hob : w0.heap.size ≤ ob) : CW At w0 F0 s' W7 F7 :=
  ⟨hp.a, ⟨hp.o.os.trans h.c.o.os, hp.o.tape.trans h.c.o.tape, hp.o.output.trans h.c.o.output, Nat.le_trans h.c.o.size hp.o.size, fun k hk hn => by
    have hz := h.c.o.size
    refine (hp.o.block k (by omega) ?_).trans (h.c.o.block k hk hn)
    rintro (e | e)
    · rcases h.c.f k e with e | e
      · exact hn e
      · omega
    · omega⟩, fun k hk => by
    have hz := h.c.o.size
    rcases hp.f k hk with e | e
    · exact h.c.f k e
    · exact .inr (by omega)⟩
theorem TQ.far {W6 W7 : World} {F6 F7 : Nat → Prop} (h : TQ At w0 F0 bb rb k0 mode0 ms0 x0 y0 lv0 vs0 L s W6 F6) (hp : PW At W6 F6 ob s' W7 F7) (hob : rb ≠ ob) : ¬ F7 rb ∧ SqBlk W7 rb 36 0 0 [] 0 0 nilS [] :=
  ⟨fun e => by
    rcases hp.f rb e with e | e
    · exact h.rF e
    · have := h.res.lt; omega, h.res.keep hp.o (fun e => by
    rcases e with e | e
    · exact h.rF e
    · exact hob e)⟩
/-- What the call has come to ahead of the square's kind. -/
structure TP (M : Mach σ) (At : World → (Nat → Prop) → σ → Prop) (w : World) (F : Nat → Prop) (pr : Ask R20) (key : Bool) (st : σ) (L : List (Value × List Int)) (s : SqS) (m0 m1 m2 m3 : Int) (lv v0 v1 v2 v3 : Value) (l0 l1 l2 l3 : List Int) (W : World) : Prop where
  pr : pr = codeA key s
  t : TQ At w F w.heap.size (w.heap.size + 1) s.kind s.mode [m0, m1, m2, m3] s.x s.y lv [v0, v1, v2, v3] L st W F
  em : s.modes = [m0, m1, m2, m3]
  es : s.small = [l0, l1, l2, l3]
  k : 0 ≤ s.kind ∧ s.kind ≤ 3
  e3 : (M.run (headA key s.kind) st).1 = 3 → ∀ p ∈ [(v0, l0), (v1, l1), (v2, l2), (v3, l3)], p ∈ L ∧ p.2.length = 16 ∧ p.2.any lvOut = false
  e12 : (M.run (headA key s.kind) st).1 = 1 ∨ (M.run (headA key s.kind) st).1 = 2 → (lv, s.large) ∈ L ∧ s.large.length = 64 ∧ s.large.any lvOut = false
/-- A list of zeros is made, and laid into the box. -/
theorem TQ.addS (H : IsCoder M fB fF me At Ok) (h : TQ At w0 F0 bb rb k0 mode0 ms0 x0 y0 lv0 vs0 L s W F) (i : Nat) (hi : i = vs0.length) (h4 : i < 4) :
    TQ At w0 F0 bb rb k0 mode0 ms0 x0 y0 lv0 (vs0 ++ [.slice (some ⟨W.heap.size, 0, none⟩) 16 16]) ((.slice (some ⟨W.heap.size, 0, none⟩) 16 16, zerosL 16) :: L) s ((W.alloc (.cells ((zerosL 16).map intV).toArray 3)).setCell ⟨bb, 9 + i, none⟩ (.slice (some ⟨W.heap.size, 0, none⟩) 16 16)) F := by
  have hal : Below W.heap.size W (W.alloc (.cells ((zerosL 16).map intV).toArray 3)) := (Below.refl _ _).alloc (Nat.le_refl _) _
  have h1 := h.below H hal
  have hbl := h.box.lt
  have hnew := noff_new (n := 16) (l := zerosL 16) (F := F) (Blk.new W 3 ((zerosL 16).map intV).toArray) rfl (by decide +kernel) (fun hF => by have := H.there _ _ _ _ h.c.a hF; omega)
  have hob : ∀ k, (Value.slice (some ⟨W.heap.size, 0, none⟩) 16 16).ownBlock = some k → k ≠ bb := fun k hk => by
    have e : W.heap.size = k := by simpa [Value.ownBlock] using hk
    omega
  refine ⟨h1.c.put H h1.bF h1.bw _ _, h1.box.putS i hi h4 _, h1.res.far (p := ⟨bb, 9 + i, none⟩) (Ne.symm h1.ne) _, h1.bF, h1.rF, h1.bw, h1.rw, h1.ne, fun p hp => ?_, fun p hp => ?_⟩
  · rcases List.mem_cons.1 hp with rfl | hp
    · exact hnew.put hob _ _
    · exact (h1.ls p hp).put (h1.lb p hp) _ _
  · rcases List.mem_cons.1 hp with rfl | hp
    · exact hob
    · exact h1.lb p hp
theorem SqBlk.all {W : World} {ob : Nat} {ty : TypeId} {k mode x y : Int} {ms : List Int} {lv : Value} {vs : List Value} (h : SqBlk W ob ty k mode ms x y lv vs) :
    (W.cell? ⟨ob, 0, none⟩ = some (.int .i64 k) ∧ W.cell? ⟨ob, 1, none⟩ = some (.int .i64 mode)) ∧ (W.cell? ⟨ob, 2, none⟩ = some (.int .i64 (ms.getD 0 0)) ∧ W.cell? ⟨ob, 3, none⟩ = some (.int .i64 (ms.getD 1 0)) ∧ W.cell? ⟨ob, 4, none⟩ = some (.int .i64 (ms.getD 2 0)) ∧ W.cell? ⟨ob, 5, none⟩ = some (.int .i64 (ms.getD 3 0))) ∧
    (W.cell? ⟨ob, 6, none⟩ = some (.int .i64 x) ∧ W.cell? ⟨ob, 7, none⟩ = some (.int .i64 y) ∧ W.cell? ⟨ob, 8, none⟩ = some lv) ∧ (W.cell? ⟨ob, 9, none⟩ = some (vs.getD 0 nilS) ∧ W.cell? ⟨ob, 10, none⟩ = some (vs.getD 1 nilS) ∧ W.cell? ⟨ob, 11, none⟩ = some (vs.getD 2 nilS) ∧ W.cell? ⟨ob, 12, none⟩ = some (vs.getD 3 nilS)) :=
  ⟨⟨h.c0, h.c1⟩, ⟨h.cm 0 (by omega), h.cm 1 (by omega), h.cm 2 (by omega), h.cm 3 (by omega)⟩, ⟨h.c6, h.c7, h.c8⟩, h.cs 0 (by omega), h.cs 1 (by omega), h.cs 2 (by omega), h.cs 3 (by omega)⟩
theorem vs4 (vs : List Value) (j : Nat) (hj : j < 4) : vs.getD j nilS = [vs.getD 0 nilS, vs.getD 1 nilS, vs.getD 2 nilS, vs.getD 3 nilS].getD j nilS := by
  match j, hj with
  | 0, _ => rfl
  | 1, _ => rfl
  | 2, _ => rfl
  | 3, _ => rfl
theorem lst_form {w0 W : World} {F : Nat → Prop} {v : Value} {l : List Int} (h : Lst w0 v l W F) : ∃ A n, v = .slice A n n := by
  rcases h with ⟨rfl, _⟩ | ⟨g, rfl, _⟩
  · exact ⟨_, _, rfl⟩
  · exact ⟨_, _, rfl⟩
theorem SqBlk.all4 {W : World} {ob : Nat} {ty : TypeId} {k mode x y m0 m1 m2 m3 : Int} {lv v0 v1 v2 v3 : Value} (h : SqBlk W ob ty k mode [m0, m1, m2, m3] x y lv [v0, v1, v2, v3]) :
    (W.cell? ⟨ob, 0, none⟩ = some (.int .i64 k) ∧ W.cell? ⟨ob, 1, none⟩ = some (.int .i64 mode)) ∧ (W.cell? ⟨ob, 2, none⟩ = some (.int .i64 m0) ∧ W.cell? ⟨ob, 3, none⟩ = some (.int .i64 m1) ∧ W.cell? ⟨ob, 4, none⟩ = some (.int .i64 m2) ∧ W.cell? ⟨ob, 5, none⟩ = some (.int .i64 m3)) ∧
    (W.cell? ⟨ob, 6, none⟩ = some (.int .i64 x) ∧ W.cell? ⟨ob, 7, none⟩ = some (.int .i64 y) ∧ W.cell? ⟨ob, 8, none⟩ = some lv) ∧ (W.cell? ⟨ob, 9, none⟩ = some v0 ∧ W.cell? ⟨ob, 10, none⟩ = some v1 ∧ W.cell? ⟨ob, 11, none⟩ = some v2 ∧ W.cell? ⟨ob, 12, none⟩ = some v3) := h.all
theorem SqBlk.all4' {W : World} {ob : Nat} {ty : TypeId} {k mode x y : Int} {lv : Value} (h : SqBlk W ob ty k mode [] x y lv []) :
    (W.cell? ⟨ob, 0, none⟩ = some (.int .i64 k) ∧ W.cell? ⟨ob, 1, none⟩ = some (.int .i64 mode)) ∧ (W.cell? ⟨ob, 2, none⟩ = some (.int .i64 0) ∧ W.cell? ⟨ob, 3, none⟩ = some (.int .i64 0) ∧ W.cell? ⟨ob, 4, none⟩ = some (.int .i64 0) ∧ W.cell? ⟨ob, 5, none⟩ = some (.int .i64 0)) ∧
    (W.cell? ⟨ob, 6, none⟩ = some (.int .i64 x) ∧ W.cell? ⟨ob, 7, none⟩ = some (.int .i64 y) ∧ W.cell? ⟨ob, 8, none⟩ = some lv) ∧ (W.cell? ⟨ob, 9, none⟩ = some nilS ∧ W.cell? ⟨ob, 10, none⟩ = some nilS ∧ W.cell? ⟨ob, 11, none⟩ = some nilS ∧ W.cell? ⟨ob, 12, none⟩ = some nilS) := h.all
/-- .. and behind it. -/
structure UQ (M : Mach σ) (At : World → (Nat → Prop) → σ → Prop) (w : World) (F : Nat → Prop) (pr : Ask R20) (key : Bool) (st : σ) (L : List (Value × List Int)) (s : SqS) (m0 m1 m2 m3 : Int) (lv v0 v1 v2 v3 : Value) (l0 l1 l2 l3 : List Int) (ob : Nat) (kk : Int) (st6 : σ) (W : World) (F6 : Nat → Prop) : Prop where
  pr : M.run pr st = M.run (restA kk s) st6
  t : TQ At w F w.heap.size (w.heap.size + 1) s.kind s.mode [m0, m1, m2, m3] s.x s.y lv [v0, v1, v2, v3] L st6 W F6
  em : s.modes = [m0, m1, m2, m3]
  es : s.small = [l0, l1, l2, l3]
  k : 0 ≤ kk ∧ kk ≤ 3
  e3 : kk = 3 → ∀ p ∈ [(v0, l0), (v1, l1), (v2, l2), (v3, l3)], LOff p.1 p.2 W F6 ob ∧ p.2.length = 16 ∧ p.2.any lvOut = false
  e12 : kk = 1 ∨ kk = 2 → LOff lv s.large W F6 ob ∧ s.large.length = 64 ∧ s.large.any lvOut = false
  out : SqBlk W ob 36 kk 0 [] 0 0 nilS []
  nF : ¬ F6 ob
  ow : w.heap.size + 2 ≤ ob
theorem UQ.of {pr : Ask R20} {key : Bool} {st st6 : σ} {w W0 W6 : World} {F F6 : Nat → Prop} {s : SqS} {m0 m1 m2 m3 kk : Int} {lv v0 v1 v2 v3 : Value} {l0 l1 l2 l3 : List Int} (H : IsCoder M fB fF me At Ok) (h : TP M At w F pr key st L s m0 m1 m2 m3 lv v0 v1 v2 v3 l0 l1 l2 l3 W0) (c : CW At (W0.alloc (.cells #[.int .i64 0, .int .i64 0, .int .i64 0, .int .i64 0, .int .i64 0, .int .i64 0, .int .i64 0, .int .i64 0, nilS, nilS, nilS, nilS, nilS] 36)) F st6 W6 F6) (hd : M.run (headA key s.kind) st = (kk, st6)) :
    UQ M At w F pr key st L s m0 m1 m2 m3 lv v0 v1 v2 v3 l0 l1 l2 l3 W0.heap.size kk st6 (W6.setCell ⟨W0.heap.size, 0, none⟩ (.int .i64 kk)) F6 := by
  have hb : Below W0.heap.size W0 (W0.alloc (.cells #[.int .i64 0, .int .i64 0, .int .i64 0, .int .i64 0, .int .i64 0, .int .i64 0, .int .i64 0, .int .i64 0, nilS, nilS, nilS, nilS, nilS] 36)) := (Below.refl _ _).alloc (Nat.le_refl _) _
  have ht5 := h.t.below H hb
  have ho5 : SqBlk (W0.alloc (.cells #[.int .i64 0, .int .i64 0, .int .i64 0, .int .i64 0, .int .i64 0, .int .i64 0, .int .i64 0, .int .i64 0, nilS, nilS, nilS, nilS, nilS] 36)) W0.heap.size 36 0 0 [] 0 0 nilS [] := SqBlk.new (Blk.new _ _ _) rfl
  have hF0 : ¬ F W0.heap.size := fun e => by have := H.there _ _ _ _ h.t.c.a e; omega
  have ht6 := ht5.code c
  have ho6 := ho5.keep c.o hF0
  have hz5 : (W0.alloc (.cells #[.int .i64 0, .int .i64 0, .int .i64 0, .int .i64 0, .int .i64 0, .int .i64 0, .int .i64 0, .int .i64 0, nilS, nilS, nilS, nilS, nilS] 36)).heap.size = W0.heap.size + 1 := by simp
  have hF6 : ¬ F6 W0.heap.size := fun e => by
    rcases c.f _ e with e | e
    · exact hF0 e
    · omega
  have how : w.heap.size + 2 ≤ W0.heap.size := by have := h.t.res.lt; omega
  have hlb : ∀ p ∈ L, ∀ k, p.1.ownBlock = some k → k ≠ W0.heap.size := fun p hp k hk => by have := (h.t.ls p hp).b k hk; omega
  have hk : 0 ≤ kk ∧ kk ≤ 3 := by
    have := All.run M (all_head key s.kind) st
    rw [hd] at this
    dsimp only at this
    omega
  have hL : ∀ p ∈ L, LOff p.1 p.2 (W6.setCell ⟨W0.heap.size, 0, none⟩ (.int .i64 kk)) F6 W0.heap.size := fun p hp => ⟨(ht6.ls p hp).put (hlb p hp) _ _, hlb p hp⟩
  have e3 := h.e3
  have e12 := h.e12
  rw [hd] at e3 e12
  refine ⟨?_, ⟨ht6.c.put H hF6 (by omega) _ _, ht6.box.far (p := ⟨W0.heap.size, 0, none⟩) (by show w.heap.size ≠ W0.heap.size; omega) _, ht6.res.far (p := ⟨W0.heap.size, 0, none⟩) (by show w.heap.size + 1 ≠ W0.heap.size; omega) _, ht6.bF, ht6.rF, ht6.bw, ht6.rw, ht6.ne, fun p hp => (hL p hp).n, ht6.lb⟩, h.em, h.es, hk, fun e p hp => ?_, fun e => ?_, ho6.put0 kk, hF6, how⟩
  · rw [h.pr]
    show M.run ((headA key s.kind).bind fun k => restA k s) st = _
    rw [run_bind, hd]
  · obtain ⟨a, b⟩ := e3 e p hp
    exact ⟨hL p a, b⟩
  · obtain ⟨a, b⟩ := e12 e
    exact ⟨hL _ a, b⟩
theorem SqBlk.set13 {W : World} {ob : Nat} {ty : TypeId} {k0 mode0 x0 y0 : Int} {ms0 : List Int} {lv0 : Value} {vs0 : List Value} (h : SqBlk W ob ty k0 mode0 ms0 x0 y0 lv0 vs0) (k mode m0 m1 m2 m3 x y : Int) (lv v0 v1 v2 v3 : Value) :
    SqBlk (((((((((((((W.setCell ⟨ob, 0, none⟩ (.int .i64 k)).setCell ⟨ob, 1, none⟩ (.int .i64 mode)).setCell ⟨ob, 2, none⟩ (.int .i64 m0)).setCell ⟨ob, 3, none⟩ (.int .i64 m1)).setCell ⟨ob, 4, none⟩ (.int .i64 m2)).setCell ⟨ob, 5, none⟩ (.int .i64 m3)).setCell ⟨ob, 6, none⟩ (.int .i64 x)).setCell ⟨ob, 7, none⟩ (.int .i64 y)).setCell ⟨ob, 8, none⟩ lv).setCell ⟨ob, 9, none⟩ v0).setCell ⟨ob, 10, none⟩ v1).setCell ⟨ob, 11, none⟩ v2).setCell ⟨ob, 12, none⟩ v3) ob ty k mode [m0, m1, m2, m3] x y lv [v0, v1, v2, v3] := by
  obtain ⟨cs, hb, hs, _⟩ := h
  refine SqBlk.of (((((((((((((hb.put 0 (.int .i64 k)).put 1 (.int .i64 mode)).put 2 (.int .i64 m0)).put 3 (.int .i64 m1)).put 4 (.int .i64 m2)).put 5 (.int .i64 m3)).put 6 (.int .i64 x)).put 7 (.int .i64 y)).put 8 lv).put 9 v0).put 10 v1).put 11 v2).put 12 v3) ?_
  obtain ⟨l⟩ := cs
  match l, hs with
  | [_, _, _, _, _, _, _, _, _, _, _, _, _], _ => simp only [List.setIfInBounds_toArray, List.set_cons_zero, List.set_cons_succ]
theorem CW.set13 {W : World} (H : IsCoder M fB fF me At Ok) (h : CW At w0 F0 s W F) (hg : ¬ F ob) (lo : w0.heap.size ≤ ob) (k mode m0 m1 m2 m3 x y : Int) (lv v0 v1 v2 v3 : Value) : CW At w0 F0 s (((((((((((((W.setCell ⟨ob, 0, none⟩ (.int .i64 k)).setCell ⟨ob, 1, none⟩ (.int .i64 mode)).setCell ⟨ob, 2, none⟩ (.int .i64 m0)).setCell ⟨ob, 3, none⟩ (.int .i64 m1)).setCell ⟨ob, 4, none⟩ (.int .i64 m2)).setCell ⟨ob, 5, none⟩ (.int .i64 m3)).setCell ⟨ob, 6, none⟩ (.int .i64 x)).setCell ⟨ob, 7, none⟩ (.int .i64 y)).setCell ⟨ob, 8, none⟩ lv).setCell ⟨ob, 9, none⟩ v0).setCell ⟨ob, 10, none⟩ v1).setCell ⟨ob, 11, none⟩ v2).setCell ⟨ob, 12, none⟩ v3) F :=
  (((((((((((((h.put H hg lo 0 (.int .i64 k)).put H hg lo 1 (.int .i64 mode)).put H hg lo 2 (.int .i64 m0)).put H hg lo 3 (.int .i64 m1)).put H hg lo 4 (.int .i64 m2)).put H hg lo 5 (.int .i64 m3)).put H hg lo 6 (.int .i64 x)).put H hg lo 7 (.int .i64 y)).put H hg lo 8 lv).put H hg lo 9 v0).put H hg lo 10 v1).put H hg lo 11 v2).put H hg lo 12 v3)
theorem Lst.set13 {W : World} {v : Value} {l : List Int} (h : Lst w0 v l W F) (hob : ob < w0.heap.size) (k mode m0 m1 m2 m3 x y : Int) (lv v0 v1 v2 v3 : Value) : Lst w0 v l (((((((((((((W.setCell ⟨ob, 0, none⟩ (.int .i64 k)).setCell ⟨ob, 1, none⟩ (.int .i64 mode)).setCell ⟨ob, 2, none⟩ (.int .i64 m0)).setCell ⟨ob, 3, none⟩ (.int .i64 m1)).setCell ⟨ob, 4, none⟩ (.int .i64 m2)).setCell ⟨ob, 5, none⟩ (.int .i64 m3)).setCell ⟨ob, 6, none⟩ (.int .i64 x)).setCell ⟨ob, 7, none⟩ (.int .i64 y)).setCell ⟨ob, 8, none⟩ lv).setCell ⟨ob, 9, none⟩ v0).setCell ⟨ob, 10, none⟩ v1).setCell ⟨ob, 11, none⟩ v2).setCell ⟨ob, 12, none⟩ v3) F :=
  (((((((((((((h.put hob 0 (.int .i64 k)).put hob 1 (.int .i64 mode)).put hob 2 (.int .i64 m0)).put hob 3 (.int .i64 m1)).put hob 4 (.int .i64 m2)).put hob 5 (.int .i64 m3)).put hob 6 (.int .i64 x)).put hob 7 (.int .i64 y)).put hob 8 lv).put hob 9 v0).put hob 10 v1).put hob 11 v2).put hob 12 v3)
theorem only13 (W : World) (ob : Nat) (k mode m0 m1 m2 m3 x y : Int) (lv v0 v1 v2 v3 : Value) : Only (fun j => j = ob) W (((((((((((((W.setCell ⟨ob, 0, none⟩ (.int .i64 k)).setCell ⟨ob, 1, none⟩ (.int .i64 mode)).setCell ⟨ob, 2, none⟩ (.int .i64 m0)).setCell ⟨ob, 3, none⟩ (.int .i64 m1)).setCell ⟨ob, 4, none⟩ (.int .i64 m2)).setCell ⟨ob, 5, none⟩ (.int .i64 m3)).setCell ⟨ob, 6, none⟩ (.int .i64 x)).setCell ⟨ob, 7, none⟩ (.int .i64 y)).setCell ⟨ob, 8, none⟩ lv).setCell ⟨ob, 9, none⟩ v0).setCell ⟨ob, 10, none⟩ v1).setCell ⟨ob, 11, none⟩ v2).setCell ⟨ob, 12, none⟩ v3) := by
  refine Only.put (S := fun j => j = ob) ?_ rfl 12 _
  refine Only.put (S := fun j => j = ob) ?_ rfl 11 _
  refine Only.put (S := fun j => j = ob) ?_ rfl 10 _
  refine Only.put (S := fun j => j = ob) ?_ rfl 9 _
  refine Only.put (S := fun j => j = ob) ?_ rfl 8 _
  refine Only.put (S := fun j => j = ob) ?_ rfl 7 _
  refine Only.put (S := fun j => j = ob) ?_ rfl 6 _
  refine Only.put (S := fun j => j = ob) ?_ rfl 5 _
  refine Only.put (S := fun j => j = ob) ?_ rfl 4 _
  refine Only.put (S := fun j => j = ob) ?_ rfl 3 _
  refine Only.put (S := fun j => j = ob) ?_ rfl 2 _
  refine Only.put (S := fun j => j = ob) ?_ rfl 1 _
  refine Only.put (S := fun j => j = ob) ?_ rfl 0 _
  exact Only.refl _ _
theorem errv_set13 {W : World} {ty : TypeId} {c : Int} {q : PathS} {u : Value} {k0 mode0 x0 y0 : Int} {ms0 : List Int} {lv0 : Value} {vs0 : List Value} (h : ErrV W c q u) (hb : SqBlk W ob ty k0 mode0 ms0 x0 y0 lv0 vs0) (ht : ty ≠ 132) (k mode m0 m1 m2 m3 x y : Int) (lv v0 v1 v2 v3 : Value) : ErrV (((((((((((((W.setCell ⟨ob, 0, none⟩ (.int .i64 k)).setCell ⟨ob, 1, none⟩ (.int .i64 mode)).setCell ⟨ob, 2, none⟩ (.int .i64 m0)).setCell ⟨ob, 3, none⟩ (.int .i64 m1)).setCell ⟨ob, 4, none⟩ (.int .i64 m2)).setCell ⟨ob, 5, none⟩ (.int .i64 m3)).setCell ⟨ob, 6, none⟩ (.int .i64 x)).setCell ⟨ob, 7, none⟩ (.int .i64 y)).setCell ⟨ob, 8, none⟩ lv).setCell ⟨ob, 9, none⟩ v0).setCell ⟨ob, 10, none⟩ v1).setCell ⟨ob, 11, none⟩ v2).setCell ⟨ob, 12, none⟩ v3) c q u := by
  obtain ⟨cs, hb, _⟩ := hb
  refine h.only (only13 W ob k mode m0 m1 m2 m3 x y lv v0 v1 v2 v3) (fun j cs' hk hB => ?_)
  subst hk
  exact ht (hb.uniq hB).1
theorem four_smalls : ∀ (r : List (Int × List Int)) (a : List Int) (c : List (List Int)), (smallsA r a c).All fun q => q.1 = none → q.2.1.length = a.length + r.length ∧ q.2.2.length = c.length + r.length
  | [], a, c => fun _ => ⟨rfl, rfl⟩
  | (m, l) :: r, a, c => All.bind (All.true (modeA m)) fun m' _ => All.bind (All.true (squareA 14 (ordOf 4) l)) fun q _ => by
    rcases q with ⟨o, q⟩
    cases o with
    | some i => exact fun e => by simp at e
    | none =>
      refine (four_smalls r (a ++ [m']) (c ++ [q])).mono fun x hx e => ?_
      obtain ⟨h1, h2⟩ := hx e
      rw [List.length_append, List.length_singleton] at h1 h2
      rw [List.length_cons]
      exact ⟨by omega, by omega⟩
theorem rest_four (M : Mach σ) (k : Int) (s : SqS) (h4 : Four s) (t : σ) (hn : (M.run (restA k s) t).1.1 = none) : Four (M.run (restA k s) t).1.2 := by
  have h : (restA k s).All fun r => r.1 = none → Four r.2 := by
    unfold restA restG
    split
    · refine All.bind (four_smalls _ _ _) fun r hr e => ?_
      obtain ⟨h1, h2⟩ := hr e
      have hz : (s.modes.zip s.small).length = 4 := by rw [List.length_zip, h4.1, h4.2]; rfl
      rw [hz] at h1 h2
      exact ⟨h1, h2⟩
    · split
      · exact fun _ => ⟨rfl, rfl⟩
      · split
        · exact All.bind (All.true _) fun _ _ => All.bind (All.true _) fun _ _ => All.bind (All.true _) fun _ _ => fun _ => ⟨rfl, rfl⟩
        · exact All.bind (All.true _) fun _ _ => All.bind (All.true _) fun _ _ => fun _ => ⟨rfl, rfl⟩
  exact All.run M h t hn
theorem getD4 {α : Type} (d : α) {l : List α} (h : l.length = 4) : l = [l.getD 0 d, l.getD 1 d, l.getD 2 d, l.getD 3 d] := by
  match l, h with
  | [_, _, _, _], _ => rfl
theorem hob_of (w : World) (o : Obj) : w.heap.size < (w.alloc o).heap.size := by simp
end
end Go.Proofs.YtkkgpdejmcpcpaaGreatDoor

