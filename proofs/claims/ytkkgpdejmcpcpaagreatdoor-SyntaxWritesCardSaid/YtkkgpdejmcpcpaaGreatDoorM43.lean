/- Parts: XLawSWrites, XOpenLaid. -/
import Derived.Test.YtkkgpdejmcpcpaaGreatDoorM41
import Derived.Test.YtkkgpdejmcpcpaaGreatDoorM42
import Derived.Test.YtkkgpdejmcpcpaaGreatDoorM39
import Derived.Deep.RegionHeldLaw
import Derived.Deep.RegionHeld3
import Derived.Test.YtkkgpdejmcpcpaaGreatDoorRows
import Derived.Test.YtkkgpdejmcpcpaaGreatDoorM02
import Derived.ChangeSame
import Derived.ChangeVars
import Derived.JoinedOf
import Derived.RowKit
import Derived.RowKitTokens
import Derived.LaidLaws
import Derived.LaidHandle
import Derived.Stop.Joined
import Derived.ProofKit
import Derived.OpenShut
import Derived.ChangeOld
import Derived.Deep.Slices
import Derived.Deep.Fields
/- SyntaxWrites: the walk. -/
namespace Go.Proofs.YtkkgpdejmcpcpaaGreatDoor
open Go.RowKit

theorem ok_xw_newS : XWr.new.Ok 4 := ⟨pok_first, by decide, by decide, by decide⟩
theorem simw_newS : WrSim Wr.new XWr.new := ⟨rfl, ⟨rfl, rfl⟩, pok_first, by decide, by decide, by decide⟩
theorem simw_bytes {s : Wr} {t : XWr} (h : WrSim s t) : t.e.bytes = s.e.bytes := by
  show trim t.e.L = trim _
  rw [h.e.L]
theorem xw_endS (b eb : Nat) (w : World) (F : Nat → Prop) (s : XWr) (h : AtXw b eb w F s) :
    Calls Tryz.prog 17 #[.pointer (some ⟨eb, 0, none⟩)] w fun y w' => ∃ g cap, y = .returned (.slice (some ⟨g, 0, none⟩) s.e.bytes.length cap) ∧ w'.ownsRow w.heap.size 5 1 (.slice (some ⟨g, 0, none⟩) s.e.bytes.length cap) s.e.bytes.length (s.e.bytes.map byteV) ∧ Below w.heap.size w w' := by
  obtain ⟨v, h1, _⟩ := h
  exact renc_end eb v s.e w h1.enc
theorem From.belowS {w w' : World} {size m : Nat} {x : Value} {news : List Value} (h : From w size x m news) (hb : Below w.heap.size w w') : From w' size x m news := by
  obtain ⟨A, c, h1, h2, h3⟩ := h
  refine ⟨A, c, h1, h2, fun h0 => ?_⟩
  obtain ⟨ad, h4, h5⟩ := h3 h0
  refine ⟨ad, h4, fun j u hu => ?_⟩
  have := h5 j u hu
  rw [hb.cell (World.block_lt_of_cell? _ _ this)]
  exact this
/-- Numbers that lie behind B. -/
def LoN (W : World) (B : Nat) (p : Value × List Int) : Prop := Nums W p.1 p.2 ∧ ∀ k, p.1.ownBlock = some k → B ≤ k ∧ k < W.heap.size
theorem LoN.keep {W W' : World} {B : Nat} {p : Value × List Int} {X : Nat → Prop} (h : LoN W B p) (o : Only X W W') (hX : ∀ k, X k → k < B) : LoN W' B p :=
  ⟨h.1.keepO o (fun k hk hk2 => by have := (h.2 k hk).1; have := hX k hk2; omega), fun k hk => ⟨(h.2 k hk).1, Nat.lt_of_lt_of_le (h.2 k hk).2 o.size⟩⟩
theorem LoN.below {W W' : World} {B : Nat} {p : Value × List Int} (h : LoN W B p) (hb : Below W.heap.size W W') : LoN W' B p := ⟨h.1.below hb, fun k hk => ⟨(h.2 k hk).1, Nat.lt_of_lt_of_le (h.2 k hk).2 hb.size⟩⟩
theorem LoN.mono {W : World} {B B' : Nat} {p : Value × List Int} (h : LoN W B p) (hB : B' ≤ B) : LoN W B' p := ⟨h.1, fun k hk => ⟨Nat.le_trans hB (h.2 k hk).1, (h.2 k hk).2⟩⟩
/-- What a writer answers, and what it has come to. -/
def ansS (key : Bool) (s : SqS) : SqS := if askNo key s = 0 then partsS s else bareS 0
def stS {σ : Type} (M : Mach σ) (key : Bool) (s : SqS) (st : σ) : σ := if askNo key s = 0 then (M.run (codeA key s) st).2 else st
theorem ans_len {key : Bool} {s : SqS} : (ansS key s).large.length ≤ 64 ∧ ∀ l ∈ (ansS key s).small, l.length ≤ 16 := by
  unfold ansS
  by_cases hv : askNo key s = 0
  · rw [if_pos hv]
    exact parts_len (right_of hv)
  · rw [if_neg hv]
    exact ⟨Nat.zero_le _, by decide⟩
theorem stS_ok {σ : Type} {M : Mach σ} {fB fF : FuncId} {me : Value} {At : World → (Nat → Prop) → σ → Prop} {Ok : σ → Nat → Prop} (H : IsCoder M fB fF me At Ok) (key : Bool) (s : SqS) (h4 : s.modes.length ≤ 4) (st : σ) (lim : Nat) (h : Ok st lim) : ∃ m, m ≤ lim + 9000 ∧ Ok (stS M key s st) m := by
  unfold stS
  by_cases hv : askNo key s = 0
  · rw [if_pos hv]
    exact ok_code20 H key s h4 st lim h
  · rw [if_neg hv]
    exact ⟨lim, by omega, h⟩
theorem stS_sim (key : Bool) (s : SqS) {st : Wr} {t : XWr} (h : WrSim st t) : WrSim (stS wrM key s st) (stS xwM key s t) := by
  unfold stS
  by_cases hv : askNo key s = 0
  · rw [if_pos hv, if_pos hv]
    exact (wr_alike.run (codeA key s) (ctx_code key s) h).2
  · rw [if_neg hv, if_neg hv]
    exact h
theorem wstep (b1 : Nat) (key : Bool) (s : SqS) (m0 m1 m2 m3 : Int) (lv v0 v1 v2 v3 : Value) (l0 l1 l2 l3 : List Int) (st : Wr) (W : World) (F : Nat → Prop) (lim : Nat)
    (hn : SqArg W (sqV s.kind s.mode m0 m1 m2 m3 s.x s.y lv v0 v1 v2 v3) s m0 m1 m2 m3 lv v0 v1 v2 v3 l0 l1 l2 l3) (h4 : Four s) (hs : AtWr b1 W F st) (ho : st.Ok lim) (hl : lim + 100000 ≤ 1000000000)
    (hoff : RightS key s → (s.kind = 3 → ∀ p ∈ [(v0, l0), (v1, l1), (v2, l2), (v3, l3)], NOff p.1 p.2 W F) ∧ (s.kind = 1 ∨ s.kind = 2 → NOff lv s.large W F)) :
    Calls Tryz.prog 10 #[.iface 25 (.pointer (some ⟨b1, 0, none⟩)), .bool key, sqV s.kind s.mode m0 m1 m2 m3 s.x s.y lv v0 v1 v2 v3] W fun e w' => ∃ (F' : Nat → Prop) (A0 A1 A2 A3 A4 : Option Addr) (n0 n1 n2 n3 n4 : Nat) (p0 p1 p2 p3 : Int) (j0 j1 j2 j3 : List Int), e = .returned (.tuple #[sqV (ansS key s).kind (ansS key s).mode p0 p1 p2 p3 (ansS key s).x (ansS key s).y (.slice A0 n0 n0) (.slice A1 n1 n1) (.slice A2 n2 n2) (.slice A3 n3 n3) (.slice A4 n4 n4), codeV (askNo key s)]) ∧ CW (AtWr b1) W F (stS wrM key s st) w' F' ∧ (ansS key s).modes = [p0, p1, p2, p3] ∧ (ansS key s).small = [j0, j1, j2, j3] ∧ ∀ p ∈ [((.slice A0 n0 n0 : Value), (ansS key s).large), (.slice A1 n1 n1, j0), (.slice A2 n2 n2, j1), (.slice A3 n3 n3, j2), (.slice A4 n4 n4, j3)], LoN w' W.heap.size p := by
  unfold stS
  by_cases hv : askNo key s = 0
  · have hr := right_of hv
    have ho9 := hoff hr
    refine (wcode20 b1 key _ s m0 m1 m2 m3 lv v0 v1 v2 v3 l0 l1 l2 l3 st W F lim hn hs ho hl hv ho9.1 ho9.2).mono ?_
    rintro e w' ⟨F', hcw, hans⟩
    rw [echo_told echo_wr hr h4 st] at hans
    obtain ⟨v', rfl, p0, p1, p2, p3, lv', v0', v1', v2', v3', j0, j1, j2, j3, rfl, hqm, hqs, z0, z1, z2, z3, z4⟩ := hans
    obtain ⟨A0, n0, rfl⟩ := lst_form z0
    obtain ⟨A1, n1, rfl⟩ := lst_form z1
    obtain ⟨A2, n2, rfl⟩ := lst_form z2
    obtain ⟨A3, n3, rfl⟩ := lst_form z3
    obtain ⟨A4, n4, rfl⟩ := lst_form z4
    unfold ansS
    rw [if_pos hv]
    refine ⟨F', A0, A1, A2, A3, A4, n0, n1, n2, n3, n4, p0, p1, p2, p3, j0, j1, j2, j3, by rw [hv]; rfl, by rw [if_pos hv]; exact hcw, hqm, hqs, fun p hp => ?_⟩
    simp only [List.mem_cons, List.not_mem_nil, or_false] at hp
    rcases hp with rfl | rfl | rfl | rfl | rfl
    · exact ⟨z0.nums, fun k hk => ⟨(z0.blt k hk).2, (z0.blt k hk).1⟩⟩
    · exact ⟨z1.nums, fun k hk => ⟨(z1.blt k hk).2, (z1.blt k hk).1⟩⟩
    · exact ⟨z2.nums, fun k hk => ⟨(z2.blt k hk).2, (z2.blt k hk).1⟩⟩
    · exact ⟨z3.nums, fun k hk => ⟨(z3.blt k hk).2, (z3.blt k hk).1⟩⟩
    · exact ⟨z4.nums, fun k hk => ⟨(z4.blt k hk).2, (z4.blt k hk).1⟩⟩
  · refine (scode_bad b1 _ (reads_wr b1) key _ s m0 m1 m2 m3 lv v0 v1 v2 v3 l0 l1 l2 l3 W hn hv).mono ?_
    rintro e w' ⟨rfl, hb⟩
    unfold ansS
    rw [if_neg hv]
    refine ⟨F, none, none, none, none, none, 0, 0, 0, 0, 0, 0, 0, 0, 0, [], [], [], [], rfl, by rw [if_neg hv]; exact (CW.start hs).below (wr_coder b1) hb, rfl, rfl, fun p hp => ?_⟩
    simp only [List.mem_cons, List.not_mem_nil, or_false] at hp
    rcases hp with rfl | rfl | rfl | rfl | rfl <;> exact ⟨nums_nilS _, fun k hk => by simp [Value.ownBlock] at hk⟩
theorem xstep (b2 eb : Nat) (key : Bool) (s : SqS) (m0 m1 m2 m3 : Int) (lv v0 v1 v2 v3 : Value) (l0 l1 l2 l3 : List Int) (st : XWr) (W : World) (F : Nat → Prop) (lim : Nat)
    (hn : SqArg W (sqV s.kind s.mode m0 m1 m2 m3 s.x s.y lv v0 v1 v2 v3) s m0 m1 m2 m3 lv v0 v1 v2 v3 l0 l1 l2 l3) (h4 : Four s) (hs : AtXw b2 eb W F st) (ho : st.Ok lim) (hl : lim + 100000 ≤ 1000000000)
    (hoff : RightS key s → (s.kind = 3 → ∀ p ∈ [(v0, l0), (v1, l1), (v2, l2), (v3, l3)], NOff p.1 p.2 W F) ∧ (s.kind = 1 ∨ s.kind = 2 → NOff lv s.large W F)) :
    Calls Tryz.prog 11 #[.pointer (some ⟨b2, 0, none⟩), .bool key, sqV s.kind s.mode m0 m1 m2 m3 s.x s.y lv v0 v1 v2 v3] W fun e w' => ∃ (F' : Nat → Prop) (A0 A1 A2 A3 A4 : Option Addr) (n0 n1 n2 n3 n4 : Nat) (p0 p1 p2 p3 : Int) (j0 j1 j2 j3 : List Int), e = .returned (.tuple #[sqV (ansS key s).kind (ansS key s).mode p0 p1 p2 p3 (ansS key s).x (ansS key s).y (.slice A0 n0 n0) (.slice A1 n1 n1) (.slice A2 n2 n2) (.slice A3 n3 n3) (.slice A4 n4 n4), errA (askNo key s)]) ∧ CW (AtXw b2 eb) W F (stS xwM key s st) w' F' ∧ (ansS key s).modes = [p0, p1, p2, p3] ∧ (ansS key s).small = [j0, j1, j2, j3] ∧ ∀ p ∈ [((.slice A0 n0 n0 : Value), (ansS key s).large), (.slice A1 n1 n1, j0), (.slice A2 n2 n2, j1), (.slice A3 n3 n3, j2), (.slice A4 n4 n4, j3)], LoN w' W.heap.size p := by
  unfold stS
  by_cases hv : askNo key s = 0
  · have hr := right_of hv
    have ho9 := hoff hr
    refine (rwcode20 b2 eb key _ s m0 m1 m2 m3 lv v0 v1 v2 v3 l0 l1 l2 l3 st W F lim hn hs ho hl hr ho9.1 ho9.2).mono ?_
    rintro e w' ⟨F', hcw, hans⟩
    rw [echo_told echo_xw hr h4 st] at hans
    obtain ⟨v', rfl, p0, p1, p2, p3, lv', v0', v1', v2', v3', j0, j1, j2, j3, rfl, hqm, hqs, z0, z1, z2, z3, z4⟩ := hans
    obtain ⟨A0, n0, rfl⟩ := lst_form z0
    obtain ⟨A1, n1, rfl⟩ := lst_form z1
    obtain ⟨A2, n2, rfl⟩ := lst_form z2
    obtain ⟨A3, n3, rfl⟩ := lst_form z3
    obtain ⟨A4, n4, rfl⟩ := lst_form z4
    unfold ansS
    rw [if_pos hv]
    refine ⟨F', A0, A1, A2, A3, A4, n0, n1, n2, n3, n4, p0, p1, p2, p3, j0, j1, j2, j3, by rw [hv], by rw [if_pos hv]; exact hcw, hqm, hqs, fun p hp => ?_⟩
    simp only [List.mem_cons, List.not_mem_nil, or_false] at hp
    rcases hp with rfl | rfl | rfl | rfl | rfl
    · exact ⟨z0.nums, fun k hk => ⟨(z0.blt k hk).2, (z0.blt k hk).1⟩⟩
    · exact ⟨z1.nums, fun k hk => ⟨(z1.blt k hk).2, (z1.blt k hk).1⟩⟩
    · exact ⟨z2.nums, fun k hk => ⟨(z2.blt k hk).2, (z2.blt k hk).1⟩⟩
    · exact ⟨z3.nums, fun k hk => ⟨(z3.blt k hk).2, (z3.blt k hk).1⟩⟩
    · exact ⟨z4.nums, fun k hk => ⟨(z4.blt k hk).2, (z4.blt k hk).1⟩⟩
  · refine (rcode20_bad b2 eb key _ s m0 m1 m2 m3 lv v0 v1 v2 v3 l0 l1 l2 l3 st W F hn hs hv).mono ?_
    rintro e w' ⟨rfl, hb⟩
    unfold ansS
    rw [if_neg hv]
    refine ⟨F, none, none, none, none, none, 0, 0, 0, 0, 0, 0, 0, 0, 0, [], [], [], [], rfl, by rw [if_neg hv]; exact (CW.start hs).below (xw_coder b2 eb) hb, rfl, rfl, fun p hp => ?_⟩
    simp only [List.mem_cons, List.not_mem_nil, or_false] at hp
    rcases hp with rfl | rfl | rfl | rfl | rfl <;> exact ⟨nums_nilS _, fun k hk => by simp [Value.ownBlock] at hk⟩
/-- Both writers, the copy, both squares told, the error. -/
structure KW (w : World) (b1 b2 eb : Nat) (F G : Nat → Prop) (s : Wr) (t : XWr) (h9 h10 h12 : Nat) (z : SqS) (m0 m1 m2 m3 : Int) (i0 i1 i2 i3 i4 : Value) (q : SqS) (p0 p1 p2 p3 : Int) (a0 a1 a2 a3 a4 c0 c1 c2 c3 c4 : Value) (l0 l1 l2 l3 j0 j1 j2 j3 : List Int) (no : Int) (W : World) : Prop where
  T : TwoAt w.heap.size w (AtWr b1) (AtXw b2 eb) F G s t W
  n : SqBlk W h9 36 z.kind z.mode [m0, m1, m2, m3] z.x z.y i0 [i1, i2, i3, i4]
  a : SqBlk W h10 36 q.kind q.mode [p0, p1, p2, p3] q.x q.y a0 [a1, a2, a3, a4]
  c : SqBlk W h12 42 q.kind q.mode [p0, p1, p2, p3] q.x q.y c0 [c1, c2, c3, c4]
  e : Blk W (h12 + 1) 46 #[.int .i64 no, nilS]
  ln : ∀ p ∈ [(i0, z.large), (i1, l0), (i2, l1), (i3, l2), (i4, l3)], Nums W p.1 p.2
  la : ∀ p ∈ [(a0, q.large), (a1, j0), (a2, j1), (a3, j2), (a4, j3)], Nums W p.1 p.2
  lc : ∀ p ∈ [(c0, q.large), (c1, j0), (c2, j1), (c3, j2), (c4, j3)], Nums W p.1 p.2
theorem KW.below {w : World} {b1 b2 eb : Nat} {F G : Nat → Prop} {s : Wr} {t : XWr} {h9 h10 h12 : Nat} {z : SqS} {m0 m1 m2 m3 : Int} {i0 i1 i2 i3 i4 : Value} {q : SqS} {p0 p1 p2 p3 : Int} {a0 a1 a2 a3 a4 c0 c1 c2 c3 c4 : Value} {l0 l1 l2 l3 j0 j1 j2 j3 : List Int} {no : Int} {W W' : World} (h : KW w b1 b2 eb F G s t h9 h10 h12 z m0 m1 m2 m3 i0 i1 i2 i3 i4 q p0 p1 p2 p3 a0 a1 a2 a3 a4 c0 c1 c2 c3 c4 l0 l1 l2 l3 j0 j1 j2 j3 no W) (hb : Below W.heap.size W W') : KW w b1 b2 eb F G s t h9 h10 h12 z m0 m1 m2 m3 i0 i1 i2 i3 i4 q p0 p1 p2 p3 a0 a1 a2 a3 a4 c0 c1 c2 c3 c4 l0 l1 l2 l3 j0 j1 j2 j3 no W' :=
  ⟨h.T.below (wr_coder b1) (xw_coder b2 eb) hb, h.n.below hb, h.a.below hb, h.c.below hb, h.e.below hb h.e.lt, fun p hp => (h.ln p hp).below hb, fun p hp => (h.la p hp).below hb, fun p hp => (h.lc p hp).below hb⟩
theorem KW.same1 {w : World} {b1 b2 eb : Nat} {F G : Nat → Prop} {s : Wr} {t : XWr} {h9 h10 h12 : Nat} {z : SqS} {m0 m1 m2 m3 : Int} {i0 i1 i2 i3 i4 : Value} {q : SqS} {p0 p1 p2 p3 : Int} {a0 a1 a2 a3 a4 c0 c1 c2 c3 c4 : Value} {l0 l1 l2 l3 j0 j1 j2 j3 : List Int} {no : Int} {W : World} (h : KW w b1 b2 eb F G s t h9 h10 h12 z m0 m1 m2 m3 i0 i1 i2 i3 i4 q p0 p1 p2 p3 a0 a1 a2 a3 a4 c0 c1 c2 c3 c4 l0 l1 l2 l3 j0 j1 j2 j3 no W) (hl : ∀ l ∈ [q.large, j0, j1, j2, j3], l.length ≤ 1000000) :
    Calls Tryz.prog 13 #[sqV q.kind q.mode p0 p1 p2 p3 q.x q.y a0 a1 a2 a3 a4, sqV q.kind q.mode p0 p1 p2 p3 q.x q.y c0 c1 c2 c3 c4] W fun e w' => e = .returned (.bool true) ∧ Below W.heap.size W w' := by
  refine same_any q.kind q.mode p0 p1 p2 p3 q.x q.y a0 a1 a2 a3 a4 c0 c1 c2 c3 c4 q.large j0 j1 j2 j3 W (fun p hp => ?_) hl
  simp only [List.mem_cons, List.not_mem_nil, or_false] at hp
  rcases hp with rfl | rfl | rfl | rfl | rfl | rfl | rfl | rfl | rfl | rfl
  · exact h.la (a0, q.large) (by simp)
  · exact h.la (a1, j0) (by simp)
  · exact h.la (a2, j1) (by simp)
  · exact h.la (a3, j2) (by simp)
  · exact h.la (a4, j3) (by simp)
  · exact h.lc (c0, q.large) (by simp)
  · exact h.lc (c1, j0) (by simp)
  · exact h.lc (c2, j1) (by simp)
  · exact h.lc (c3, j2) (by simp)
  · exact h.lc (c4, j3) (by simp)
theorem KW.same2 {w : World} {b1 b2 eb : Nat} {F G : Nat → Prop} {s : Wr} {t : XWr} {h9 h10 h12 : Nat} {z : SqS} {m0 m1 m2 m3 : Int} {i0 i1 i2 i3 i4 : Value} {q : SqS} {p0 p1 p2 p3 : Int} {a0 a1 a2 a3 a4 c0 c1 c2 c3 c4 : Value} {l0 l1 l2 l3 j0 j1 j2 j3 : List Int} {no : Int} {W : World} {lv v0 v1 v2 v3 : Value} (h : KW w b1 b2 eb F G s t h9 h10 h12 z m0 m1 m2 m3 i0 i1 i2 i3 i4 q p0 p1 p2 p3 a0 a1 a2 a3 a4 c0 c1 c2 c3 c4 l0 l1 l2 l3 j0 j1 j2 j3 no W) (hs : SqLies w z lv v0 v1 v2 v3 m0 m1 m2 m3 l0 l1 l2 l3) (hb : Below w.heap.size w W) (hl : ∀ l ∈ [z.large, l0, l1, l2, l3], l.length ≤ 1000000) :
    Calls Tryz.prog 13 #[sqV z.kind z.mode m0 m1 m2 m3 z.x z.y i0 i1 i2 i3 i4, sqV z.kind z.mode m0 m1 m2 m3 z.x z.y lv v0 v1 v2 v3] W fun e w' => e = .returned (.bool true) ∧ Below W.heap.size W w' := by
  refine same_any z.kind z.mode m0 m1 m2 m3 z.x z.y i0 i1 i2 i3 i4 lv v0 v1 v2 v3 z.large l0 l1 l2 l3 W (fun p hp => ?_) hl
  simp only [List.mem_cons, List.not_mem_nil, or_false] at hp
  rcases hp with rfl | rfl | rfl | rfl | rfl | rfl | rfl | rfl | rfl | rfl
  · exact h.ln (i0, z.large) (by simp)
  · exact h.ln (i1, l0) (by simp)
  · exact h.ln (i2, l1) (by simp)
  · exact h.ln (i3, l2) (by simp)
  · exact h.ln (i4, l3) (by simp)
  · exact (hs.below hb).nl.1
  · exact (hs.below hb).n0.1
  · exact (hs.below hb).n1.1
  · exact (hs.below hb).n2.1
  · exact (hs.below hb).n3.1
set_option maxRecDepth 100000 in
set_option maxHeartbeats 16000000 in
theorem swrites_walk (x y : Value) (l : List SqS) (ks : List Bool) (w : World) (hx : Els w 13 (SquR w) x l) (hml : l.length ≤ maxLen) (hy : Els w 1 BoolR y ks) (_ : ks.length ≤ maxLen) (hg : ErrT w) :
    Calls Tryz.prog 3 #[x, y] w fun e w' => e = .returned (.bool true) ∧ Below w.heap.size w w' := by
  obtain ⟨A, c, rfl, hc⟩ := hx.form
  obtain ⟨B, d, rfl, hd⟩ := Els.form hy
  have HG := hid (And.intro hg hg.lt)
  have X := hid (And.intro hx hml)
  have Y := hid hy
  clear hg hx hc hml hy hd
  go_enter Tryz.func3, Tryz.ntmps3
  go_wp2_with fail
  refine (first20 _ HG.out.1).mono ?_
  rintro e w1 ⟨rfl, h1⟩
  have B1 := hid h1
  clear h1
  go_wp2_with fail
  refine (new_wr _).mono ?_
  rintro e w2 ⟨b1, F1, rfl, ha1, hf1, hb1⟩
  have O2 := hid (show OwnC (AtWr b1) w Wr.new w2 F1 from ⟨ha1, fun k hk => Nat.le_trans B1.out.size (hf1 k hk), B1.out.trans (hb1.mono B1.out.size)⟩)
  clear ha1 hf1 hb1
  go_wp2_with fail
  refine (fewsq_any _ l _ (els_below X.out.1 O2.out.bel) X.out.2).mono ?_
  rintro e w3 ⟨q, rfl, hb3, hq⟩
  have O3 := hid (O2.out.below (wr_coder b1) hb3)
  have HQ := hid hq
  clear hb3 hq
  cases q with
  | false =>
    go_wp2_with fail
    refine (first20 _ (by exact HG.out.1.below O3.out.bel HG.out.2)).mono ?_
    rintro e w4 ⟨rfl, hb4⟩
    have B4 := hid (O3.out.bel.trans (hb4.mono O3.out.bel.size))
    clear hb4
    go_wp2_with fail
    go_ret
    exact ⟨rfl, B4.out⟩
  | true =>
    have HL := hid (HQ.out rfl)
    clear HQ
    go_wp2_with fail
    refine (new_xw _).mono ?_
    rintro e w4 ⟨b2, eb, G1, rfl, ha2, hf2, hb2⟩
    have T4 := hid (show TwoAt w.heap.size w (AtWr b1) (AtXw b2 eb) F1 G1 Wr.new XWr.new w4 from ⟨(wr_coder b1).keep _ _ F1 (fun _ => False) _ O3.out.a (Only.of_below hb2) (fun _ _ h => h), ha2, fun k h1 h2 => by have := (wr_coder b1).there _ _ _ _ O3.out.a h1; have := hf2 k h2; omega, O3.out.lo, fun k hk => Nat.le_trans O3.out.bel.size (hf2 k hk), O3.out.bel.trans (hb2.mono O3.out.bel.size), Nat.le_trans O3.out.bel.size hb2.size⟩)
    clear ha2 hf2 hb2
    go_wp2_with fail
    go_loopg [7] l.length (fun k iv wr => ∃ (i : Nat) (s : Wr) (t : XWr) (F G : Nat → Prop) (m m2 : Nat), i + k = l.length ∧ iv = .int .i64 i ∧ TwoAt w.heap.size w (AtWr b1) (AtXw b2 eb) F G s t wr ∧ WrSim s t ∧ (m ≤ 4 + 9000 * i ∧ m2 ≤ 4 + 9000 * i) ∧ s.Ok m ∧ t.Ok m2)
    case atStart => exact ⟨0, Wr.new, XWr.new, F1, G1, 0, 4, by omega, rfl, T4.out, simw_newS, by omega, ok_wr_new, ok_xw_newS⟩
    case round =>
      obtain ⟨i, st, t, F, G, m, m', hik, rfl, hown, hsim, ⟨hm, hm2⟩, hok, hok2⟩ := hrel
      have O := hid (And.intro hown (And.intro hsim (And.intro hok hok2)))
      have hl100 := HL.out.1
      by_cases hlt : i < l.length
      · have h9 : decide (i < l.length) = true := decide_eq_true hlt
        have e1 : decide ((i : Int) < (l.length : Int)) = true := by simp; omega
        obtain ⟨s, hz⟩ : ∃ s, l[i]? = some s := ⟨l[i], List.getElem?_eq_getElem hlt⟩
        obtain ⟨b4, o4, lv, v0, v1, v2, v3, m0, m1, m2, m3, l0, l1, l2, l3, rfl, hb4, hs, hcell⟩ := square_at X.out.1 hz
        obtain ⟨Z0, d0, rfl, _⟩ := hs.nl.1.form
        obtain ⟨Z1, d1, rfl, _⟩ := hs.n0.1.form
        obtain ⟨Z2, d2, rfl, _⟩ := hs.n1.1.form
        obtain ⟨Z3, d3, rfl, _⟩ := hs.n2.1.form
        obtain ⟨Z4, d4, rfl, _⟩ := hs.n3.1.form
        have hw20 := HL.out.2 s (List.mem_of_getElem? hz)
        rw [hs.weigh] at hw20
        have hlen := sum5.2 hw20
        have hlens : ∀ l ∈ [s.large, l0, l1, l2, l3], l.length ≤ 1000000 := by
          intro l hl
          simp only [List.mem_cons, List.not_mem_nil, or_false] at hl
          rcases hl with rfl | rfl | rfl | rfl | rfl <;> omega
        obtain ⟨⟨r0, r1⟩, ⟨r2, r3, r4, r5⟩, ⟨r6, r7, r8⟩, r9, r10, r11, r12⟩ := hcell wr hown.bel
        have k0 : (0 : Int) ≤ (i : Int) := by omega
        have k1 : (i : Int) < (l.length : Int) := by omega
        have HI := hid (And.intro hik (And.intro hlt hz))
        have SL := hid (And.intro hs (And.intro hcell hlens))
        have HCP := hid (fun W (hb : Below w.heap.size w W) => copied_any s.kind s.mode m0 m1 m2 m3 s.x s.y (.slice Z0 s.large.length d0) (.slice Z1 l0.length d1) (.slice Z2 l1.length d2) (.slice Z3 l2.length d3) (.slice Z4 l3.length d4) s.large l0 l1 l2 l3 W ⟨(hs.below hb).nl.1, (hs.below hb).n0.1, (hs.below hb).n1.1, (hs.below hb).n2.1, (hs.below hb).n3.1⟩ (by omega))
        obtain ⟨key, hkey⟩ : ∃ q, q = keyAt ks i := ⟨_, rfl⟩
        have hkc : (i < ks.length ∧ decide (i < ks.length) = true ∧ decide ((i : Int) < (ks.length : Int)) = true ∧ ks[i]? = some key) ∨ (decide (i < ks.length) = false ∧ decide ((i : Int) < (ks.length : Int)) = false ∧ key = false) := by
          by_cases h : i < ks.length
          · refine .inl ⟨h, decide_eq_true h, by simp; omega, ?_⟩
            rw [hkey, keyAt, decide_eq_true h, List.getD_eq_getElem?_getD, List.getElem?_eq_getElem h]; rfl
          · refine .inr ⟨decide_eq_false h, by simp; omega, ?_⟩
            rw [hkey, keyAt, decide_eq_false h]; rfl
        clear hown hsim hok hok2 hz hb4 hs hcell hik hlt hkey hw20 hlen hlens
        go_upto_region 10 with fail
        go_cut [8] from 30 to 89 (fun kv W => kv = .bool key ∧ wr = W)
        case first =>
          rcases hkc with ⟨hk, g1, g2, hkz⟩ | ⟨g1, g2, rfl⟩
          · obtain ⟨b5, o5, cs0, rfl, hb5, _, rfl, hc5⟩ := Els.at_ Y.out hkz
            have q5 := (O.out.1.bel.cell (p := ⟨b5, o5 + i, none⟩) hb5).trans (show w.cell? ⟨b5, o5 + i, none⟩ = some (.bool key) by simpa using hc5 0 _ rfl)
            have j1 : (i : Int) < (ks.length : Int) := by omega
            clear hkz hb5 hc5
            go_wp2_with fail
            go_meet
            exact ⟨rfl, rfl⟩
          · go_wp2_with fail
            go_meet
            exact ⟨rfl, rfl⟩
        case rest =>
         obtain ⟨rfl, rfl⟩ := hcut
         clear hkc
         unfold sqV at HCP
         go_wp2_with fail
         refine (HCP.out _ (by exact O.out.1.bel)).mono ?_
         clear HCP
         rintro e w5 ⟨x0, x1, x2, x3, x4, rfl, hb5, ⟨g0, y0, rfl, c0, q0⟩, ⟨g1, y1, rfl, c1, q1⟩, ⟨g2, y2, rfl, c2, q2⟩, ⟨g3, y3, rfl, c3, q3⟩, ⟨g4, y4, rfl, c4, q4⟩⟩
         have hloN : ∀ (v : Value) (l : List Int) (g c : Nat), v = .slice (some ⟨g, 0, none⟩) l.length c → wr.heap.size + 2 ≤ g → NOff v l w5 (fun _ => False) → LoN w5 wr.heap.size (v, l) := by
           intro v l g c hv hg hn
           refine ⟨hn.n, fun k hk => ?_⟩
           have hb := hn.b k hk
           subst hv
           have e : g = k := by simpa [Value.ownBlock] using hk
           exact ⟨by omega, hb⟩
         have hln : ∀ p ∈ [((.slice (some ⟨g0, 0, none⟩) s.large.length y0 : Value), s.large), (.slice (some ⟨g1, 0, none⟩) l0.length y1, l0), (.slice (some ⟨g2, 0, none⟩) l1.length y2, l1), (.slice (some ⟨g3, 0, none⟩) l2.length y3, l2), (.slice (some ⟨g4, 0, none⟩) l3.length y4, l3)], LoN w5 wr.heap.size p := by
           intro p hp
           simp only [List.mem_cons, List.not_mem_nil, or_false] at hp
           rcases hp with rfl | rfl | rfl | rfl | rfl
           · exact hloN _ _ _ _ rfl c0 q0
           · exact hloN _ _ _ _ rfl c1 q1
           · exact hloN _ _ _ _ rfl c2 q2
           · exact hloN _ _ _ _ rfl c3 q3
           · exact hloN _ _ _ _ rfl c4 q4
         have hal : Below w5.heap.size w5 (w5.alloc (.cells #[.int .i64 s.kind, .int .i64 s.mode, .int .i64 m0, .int .i64 m1, .int .i64 m2, .int .i64 m3, .int .i64 s.x, .int .i64 s.y, .slice (some ⟨g0, 0, none⟩) s.large.length y0, .slice (some ⟨g1, 0, none⟩) l0.length y1, .slice (some ⟨g2, 0, none⟩) l1.length y2, .slice (some ⟨g3, 0, none⟩) l2.length y3, .slice (some ⟨g4, 0, none⟩) l3.length y4] 36)) := (Below.refl _ _).alloc (Nat.le_refl _) _
         have hT5 := (O.out.1.below (wr_coder b1) (xw_coder b2 eb) hb5).below (wr_coder b1) (xw_coder b2 eb) hal
         have T5 := hid (And.intro hT5 (And.intro (show SqBlk (w5.alloc (.cells #[.int .i64 s.kind, .int .i64 s.mode, .int .i64 m0, .int .i64 m1, .int .i64 m2, .int .i64 m3, .int .i64 s.x, .int .i64 s.y, .slice (some ⟨g0, 0, none⟩) s.large.length y0, .slice (some ⟨g1, 0, none⟩) l0.length y1, .slice (some ⟨g2, 0, none⟩) l1.length y2, .slice (some ⟨g3, 0, none⟩) l2.length y3, .slice (some ⟨g4, 0, none⟩) l3.length y4] 36)) w5.heap.size 36 s.kind s.mode [m0, m1, m2, m3] s.x s.y (.slice (some ⟨g0, 0, none⟩) s.large.length y0) [.slice (some ⟨g1, 0, none⟩) l0.length y1, .slice (some ⟨g2, 0, none⟩) l1.length y2, .slice (some ⟨g3, 0, none⟩) l2.length y3, .slice (some ⟨g4, 0, none⟩) l3.length y4] from SqBlk.of (Blk.new _ _ _) rfl) (fun p hp => (hln p hp).below hal)))
         have hsz : wr.heap.size ≤ w5.heap.size := hb5.size
         have FG := hid (And.intro (fun k (hk : F k) => (wr_coder b1).there _ _ _ _ O.out.1.l hk) (And.intro (fun k (hk : G k) => (xw_coder b2 eb).there _ _ _ _ O.out.1.r hk) hsz))
         clear hb5 hal hT5 hloN hln c0 c1 c2 c3 c4 q0 q1 q2 q3 q4 r0 r1 r2 r3 r4 r5 r6 r7 r8 r9 r10 r11 r12 hsz
         go_upto_region 12 with fail
         generalize w5.alloc (.cells #[.int .i64 s.kind, .int .i64 s.mode, .int .i64 m0, .int .i64 m1, .int .i64 m2, .int .i64 m3, .int .i64 s.x, .int .i64 s.y, .slice (some ⟨g0, 0, none⟩) s.large.length y0, .slice (some ⟨g1, 0, none⟩) l0.length y1, .slice (some ⟨g2, 0, none⟩) l1.length y2, .slice (some ⟨g3, 0, none⟩) l2.length y3, .slice (some ⟨g4, 0, none⟩) l3.length y4] 36) = w5b at *
         obtain ⟨⟨r0, r1⟩, ⟨r2, r3, r4, r5⟩, ⟨r6, r7, r8⟩, r9, r10, r11, r12⟩ := T5.out.2.1.all4
         have HST := hid (wstep b1 key s m0 m1 m2 m3 (.slice (some ⟨g0, 0, none⟩) s.large.length y0) (.slice (some ⟨g1, 0, none⟩) l0.length y1) (.slice (some ⟨g2, 0, none⟩) l1.length y2) (.slice (some ⟨g3, 0, none⟩) l2.length y3) (.slice (some ⟨g4, 0, none⟩) l3.length y4) l0 l1 l2 l3 st w5b F m ⟨⟨rfl, SL.out.1.em⟩, SL.out.1.es, (T5.out.2.2 (.slice (some ⟨g0, 0, none⟩) s.large.length y0, s.large) (by simp)).1, (T5.out.2.2 (.slice (some ⟨g1, 0, none⟩) l0.length y1, l0) (by simp)).1, (T5.out.2.2 (.slice (some ⟨g2, 0, none⟩) l1.length y2, l1) (by simp)).1, (T5.out.2.2 (.slice (some ⟨g3, 0, none⟩) l2.length y3, l2) (by simp)).1, (T5.out.2.2 (.slice (some ⟨g4, 0, none⟩) l3.length y4, l3) (by simp)).1⟩ SL.out.1.four T5.out.1.l O.out.2.2.1 (by omega) (fun _ => by
           have hno : ∀ p ∈ [((.slice (some ⟨g0, 0, none⟩) s.large.length y0 : Value), s.large), (.slice (some ⟨g1, 0, none⟩) l0.length y1, l0), (.slice (some ⟨g2, 0, none⟩) l1.length y2, l1), (.slice (some ⟨g3, 0, none⟩) l2.length y3, l2), (.slice (some ⟨g4, 0, none⟩) l3.length y4, l3)], NOff p.1 p.2 w5b F := fun p hp => ⟨(T5.out.2.2 p hp).1, fun k hk hF => by have := ((T5.out.2.2 p hp).2 k hk).1; have := FG.out.1 k hF; omega, fun k hk => ((T5.out.2.2 p hp).2 k hk).2⟩
           exact ⟨fun _ p hp => hno p (List.mem_cons_of_mem _ hp), fun _ => hno _ List.mem_cons_self⟩))
         have hok7 := stS_ok (wr_coder b1) key s (by rw [SL.out.1.four.1]; omega) st m O.out.2.2.1
         have hok8 := stS_ok (xw_coder b2 eb) key s (by rw [SL.out.1.four.1]; omega) t m' O.out.2.2.2
         obtain ⟨m7, hm7, hok7⟩ := hok7
         obtain ⟨m8, hm8, hok8⟩ := hok8
         have OKS := hid (And.intro (stS_sim key s O.out.2.1) (And.intro hok7 hok8))
         have AL := hid (ans_len (key := key) (s := s))
         have HXT := hid (fun W hn hs (hoff : RightS key s → _) => xstep b2 eb key s m0 m1 m2 m3 (.slice Z0 s.large.length d0) (.slice Z1 l0.length d1) (.slice Z2 l1.length d2) (.slice Z3 l2.length d3) (.slice Z4 l3.length d4) l0 l1 l2 l3 t W G m' hn SL.out.1.four hs O.out.2.2.2 (by omega) hoff)
         unfold sqV at HST
         generalize stS wrM key s st = s7 at *
         generalize stS xwM key s t = t7 at *
         generalize ansS key s = q at *
         generalize askNo key s = no at *
         clear hok7 hok8
         go_wp2_with fail
         refine HST.out.mono ?_
         clear HST
         rintro e w6 ⟨F6, A0, A1, A2, A3, A4, n0, n1, n2, n3, n4, p0, p1, p2, p3, j0, j1, j2, j3, rfl, hcw, hqm, hqs, hla⟩
         have hal : Below w6.heap.size w6 (w6.alloc (.cells #[.int .i64 q.kind, .int .i64 q.mode, .int .i64 p0, .int .i64 p1, .int .i64 p2, .int .i64 p3, .int .i64 q.x, .int .i64 q.y, .slice A0 n0 n0, .slice A1 n1 n1, .slice A2 n2 n2, .slice A3 n3 n3, .slice A4 n4 n4] 36)) := (Below.refl _ _).alloc (Nat.le_refl _) _
         have hn6 := T5.out.2.1.keep hcw.o (fun e => by have := FG.out.1 _ e; have := FG.out.2.2; omega)
         have Q6 := hid (And.intro ((T5.out.1.leftC (xw_coder b2 eb) hcw).below (wr_coder b1) (xw_coder b2 eb) hal) (And.intro (hn6.below hal) (And.intro (show SqBlk (w6.alloc (.cells #[.int .i64 q.kind, .int .i64 q.mode, .int .i64 p0, .int .i64 p1, .int .i64 p2, .int .i64 p3, .int .i64 q.x, .int .i64 q.y, .slice A0 n0 n0, .slice A1 n1 n1, .slice A2 n2 n2, .slice A3 n3 n3, .slice A4 n4 n4] 36)) w6.heap.size 36 q.kind q.mode [p0, p1, p2, p3] q.x q.y (.slice A0 n0 n0) [.slice A1 n1 n1, .slice A2 n2 n2, .slice A3 n3 n3, .slice A4 n4 n4] from SqBlk.of (Blk.new _ _ _) rfl) (And.intro (fun p hp => ((T5.out.2.2 p hp).keep hcw.o FG.out.1).below hal) (fun p hp => LoN.mono (B' := wr.heap.size) ((hla p hp).below hal) (by have := FG.out.2.2; have := T5.out.2.1.lt; omega))))))
         have QM := hid (And.intro hqm hqs)
         have h65 : wr.heap.size ≤ w6.heap.size := by have := hcw.o.size; have := hn6.lt; have := FG.out.2.2; omega
         have HS6 := hid h65
         clear hal hn6 hcw hqm hqs hla r0 r1 r2 r3 r4 r5 r6 r7 r8 r9 r10 r11 r12 T5 h65
         go_upto_region 13 with fail
         generalize w6.alloc (.cells #[.int .i64 q.kind, .int .i64 q.mode, .int .i64 p0, .int .i64 p1, .int .i64 p2, .int .i64 p3, .int .i64 q.x, .int .i64 q.y, .slice A0 n0 n0, .slice A1 n1 n1, .slice A2 n2 n2, .slice A3 n3 n3, .slice A4 n4 n4] 36) = w6b at *
         obtain ⟨⟨r0, r1⟩, ⟨r2, r3, r4, r5⟩, ⟨r6, r7, r8⟩, r9, r10, r11, r12⟩ := SL.out.2.1 w6b Q6.out.1.bel
         have HPL := hid (fun W => plain20 s.kind s.mode m0 m1 m2 m3 s.x s.y Z0 Z1 Z2 Z3 Z4 s.large.length l0.length l1.length l2.length l3.length d0 d1 d2 d3 d4 W)
         unfold sqV at HPL HXT
         go_wp2_with fail
         refine (HPL.out _).mono ?_
         rintro e w6c ⟨rfl, hbc⟩
         have Q7 := hid (And.intro (Q6.out.1.below (wr_coder b1) (xw_coder b2 eb) hbc) (And.intro (Q6.out.2.1.below hbc) (And.intro (Q6.out.2.2.1.below hbc) (And.intro (fun p hp => (Q6.out.2.2.2.1 p hp).below hbc) (fun p hp => (Q6.out.2.2.2.2 p hp).below hbc)))))
         clear hbc Q6 r0 r1 r2 r3 r4 r5 r6 r7 r8 r9 r10 r11 r12
         go_wp2_with fail
         refine (HXT.out _ (SL.out.1.below Q7.out.1.bel).arg (by exact Q7.out.1.r) (fun hr => SL.out.1.off hr Q7.out.1.bel Q7.out.1.rB)).mono ?_
         clear HXT
         rintro e w7 ⟨G7, C0, C1, C2, C3, C4, f0, f1, f2, f3, f4, p0', p1', p2', p3', j0', j1', j2', j3', rfl, hcw7, hqm', hqs', hlc⟩
         obtain ⟨rfl, rfl, rfl, rfl⟩ : p0 = p0' ∧ p1 = p1' ∧ p2 = p2' ∧ p3 = p3' := by simpa using QM.out.1.symm.trans hqm'
         obtain ⟨rfl, rfl, rfl, rfl⟩ : j0 = j0' ∧ j1 = j1' ∧ j2 = j2' ∧ j3 = j3' := by simpa using QM.out.2.symm.trans hqs'
         have hal8 : Below w7.heap.size w7 ((w7.alloc (.cells #[.int .i64 q.kind, .int .i64 q.mode, .int .i64 p0, .int .i64 p1, .int .i64 p2, .int .i64 p3, .int .i64 q.x, .int .i64 q.y, .slice C0 f0 f0, .slice C1 f1 f1, .slice C2 f2 f2, .slice C3 f3 f3, .slice C4 f4 f4] 42)).alloc (.cells #[.int .i64 no, nilS] 46)) := ((Below.refl _ _).alloc (Nat.le_refl _) _).alloc (by simp) _
         have hGB : ∀ k, G k → k < wr.heap.size := FG.out.2.1
         have K8 := hid (show KW w b1 b2 eb F6 G7 s7 t7 w5.heap.size w6.heap.size w7.heap.size s m0 m1 m2 m3 (.slice (some ⟨g0, 0, none⟩) s.large.length y0) (.slice (some ⟨g1, 0, none⟩) l0.length y1) (.slice (some ⟨g2, 0, none⟩) l1.length y2) (.slice (some ⟨g3, 0, none⟩) l2.length y3) (.slice (some ⟨g4, 0, none⟩) l3.length y4) q p0 p1 p2 p3 (.slice A0 n0 n0) (.slice A1 n1 n1) (.slice A2 n2 n2) (.slice A3 n3 n3) (.slice A4 n4 n4) (.slice C0 f0 f0) (.slice C1 f1 f1) (.slice C2 f2 f2) (.slice C3 f3 f3) (.slice C4 f4 f4) l0 l1 l2 l3 j0 j1 j2 j3 no ((w7.alloc (.cells #[.int .i64 q.kind, .int .i64 q.mode, .int .i64 p0, .int .i64 p1, .int .i64 p2, .int .i64 p3, .int .i64 q.x, .int .i64 q.y, .slice C0 f0 f0, .slice C1 f1 f1, .slice C2 f2 f2, .slice C3 f3 f3, .slice C4 f4 f4] 42)).alloc (.cells #[.int .i64 no, nilS] 46)) from
           ⟨(Q7.out.1.rightC (wr_coder b1) hcw7).below (wr_coder b1) (xw_coder b2 eb) hal8, (Q7.out.2.1.keep hcw7.o (fun e => by have := hGB _ e; have := FG.out.2.2; omega)).below hal8, (Q7.out.2.2.1.keep hcw7.o (fun e => by have := hGB _ e; have := HS6.out; omega)).below hal8, SqBlk.of ((Blk.new _ _ _).alloc _) rfl, Blk.newAt' _ _ _ (by simp), fun p hp => (((Q7.out.2.2.2.1 p hp).keep hcw7.o hGB).1).below hal8, fun p hp => (((Q7.out.2.2.2.2 p hp).keep hcw7.o hGB).1).below hal8, fun p hp => ((hlc p hp).1).below hal8⟩)
         have hql : ∀ l ∈ [q.large, j0, j1, j2, j3], l.length ≤ 1000000 := by
           intro l hl
           rcases List.mem_cons.1 hl with rfl | hl
           · have := AL.out.1; omega
           · have := AL.out.2 l (by rw [QM.out.2]; exact hl)
             omega
         have QL := hid hql
         clear hcw7 hqm' hqs' hlc hal8 hGB Q7 hql
         go_upto_region 14 with fail
         generalize ((w7.alloc _).alloc _ : World) = w8 at *
         generalize w7.heap.size = h12 at *
         generalize w6.heap.size = h10 at *
         generalize w5.heap.size = h9 at *
         have hcells : ∀ W, KW w b1 b2 eb F6 G7 s7 t7 h9 h10 h12 s m0 m1 m2 m3 (.slice (some ⟨g0, 0, none⟩) s.large.length y0) (.slice (some ⟨g1, 0, none⟩) l0.length y1) (.slice (some ⟨g2, 0, none⟩) l1.length y2) (.slice (some ⟨g3, 0, none⟩) l2.length y3) (.slice (some ⟨g4, 0, none⟩) l3.length y4) q p0 p1 p2 p3 (.slice A0 n0 n0) (.slice A1 n1 n1) (.slice A2 n2 n2) (.slice A3 n3 n3) (.slice A4 n4 n4) (.slice C0 f0 f0) (.slice C1 f1 f1) (.slice C2 f2 f2) (.slice C3 f3 f3) (.slice C4 f4 f4) l0 l1 l2 l3 j0 j1 j2 j3 no W → ((W.cell? ⟨h9, 0, none⟩ = some (.int .i64 s.kind) ∧ W.cell? ⟨h9, 1, none⟩ = some (.int .i64 s.mode) ∧ W.cell? ⟨h9, 2, none⟩ = some (.int .i64 m0) ∧ W.cell? ⟨h9, 3, none⟩ = some (.int .i64 m1) ∧ W.cell? ⟨h9, 4, none⟩ = some (.int .i64 m2) ∧ W.cell? ⟨h9, 5, none⟩ = some (.int .i64 m3) ∧ W.cell? ⟨h9, 6, none⟩ = some (.int .i64 s.x) ∧ W.cell? ⟨h9, 7, none⟩ = some (.int .i64 s.y) ∧ W.cell? ⟨h9, 8, none⟩ = some (.slice (some ⟨g0, 0, none⟩) s.large.length y0) ∧ W.cell? ⟨h9, 9, none⟩ = some (.slice (some ⟨g1, 0, none⟩) l0.length y1) ∧ W.cell? ⟨h9, 10, none⟩ = some (.slice (some ⟨g2, 0, none⟩) l1.length y2) ∧ W.cell? ⟨h9, 11, none⟩ = some (.slice (some ⟨g3, 0, none⟩) l2.length y3) ∧ W.cell? ⟨h9, 12, none⟩ = some (.slice (some ⟨g4, 0, none⟩) l3.length y4)) ∧ (W.cell? ⟨h10, 0, none⟩ = some (.int .i64 q.kind) ∧ W.cell? ⟨h10, 1, none⟩ = some (.int .i64 q.mode) ∧ W.cell? ⟨h10, 2, none⟩ = some (.int .i64 p0) ∧ W.cell? ⟨h10, 3, none⟩ = some (.int .i64 p1) ∧ W.cell? ⟨h10, 4, none⟩ = some (.int .i64 p2) ∧ W.cell? ⟨h10, 5, none⟩ = some (.int .i64 p3) ∧ W.cell? ⟨h10, 6, none⟩ = some (.int .i64 q.x) ∧ W.cell? ⟨h10, 7, none⟩ = some (.int .i64 q.y) ∧ W.cell? ⟨h10, 8, none⟩ = some (.slice A0 n0 n0) ∧ W.cell? ⟨h10, 9, none⟩ = some (.slice A1 n1 n1) ∧ W.cell? ⟨h10, 10, none⟩ = some (.slice A2 n2 n2) ∧ W.cell? ⟨h10, 11, none⟩ = some (.slice A3 n3 n3) ∧ W.cell? ⟨h10, 12, none⟩ = some (.slice A4 n4 n4)) ∧ (W.cell? ⟨h12, 0, none⟩ = some (.int .i64 q.kind) ∧ W.cell? ⟨h12, 1, none⟩ = some (.int .i64 q.mode) ∧ W.cell? ⟨h12, 2, none⟩ = some (.int .i64 p0) ∧ W.cell? ⟨h12, 3, none⟩ = some (.int .i64 p1) ∧ W.cell? ⟨h12, 4, none⟩ = some (.int .i64 p2) ∧ W.cell? ⟨h12, 5, none⟩ = some (.int .i64 p3) ∧ W.cell? ⟨h12, 6, none⟩ = some (.int .i64 q.x) ∧ W.cell? ⟨h12, 7, none⟩ = some (.int .i64 q.y) ∧ W.cell? ⟨h12, 8, none⟩ = some (.slice C0 f0 f0) ∧ W.cell? ⟨h12, 9, none⟩ = some (.slice C1 f1 f1) ∧ W.cell? ⟨h12, 10, none⟩ = some (.slice C2 f2 f2) ∧ W.cell? ⟨h12, 11, none⟩ = some (.slice C3 f3 f3) ∧ W.cell? ⟨h12, 12, none⟩ = some (.slice C4 f4 f4))) ∧ (W.cell? ⟨h12 + 1, 0, none⟩ = some (.int .i64 no) ∧ W.cell? ⟨h12 + 1, 1, none⟩ = some nilS) ∧ (W.cell? ⟨b4, o4 + i * 13, none⟩ = some (.int .i64 s.kind) ∧ W.cell? ⟨b4, o4 + i * 13 + 1, none⟩ = some (.int .i64 s.mode) ∧ W.cell? ⟨b4, o4 + i * 13 + 2, none⟩ = some (.int .i64 m0) ∧ W.cell? ⟨b4, o4 + i * 13 + 3, none⟩ = some (.int .i64 m1) ∧ W.cell? ⟨b4, o4 + i * 13 + 4, none⟩ = some (.int .i64 m2) ∧ W.cell? ⟨b4, o4 + i * 13 + 5, none⟩ = some (.int .i64 m3) ∧ W.cell? ⟨b4, o4 + i * 13 + 6, none⟩ = some (.int .i64 s.x) ∧ W.cell? ⟨b4, o4 + i * 13 + 7, none⟩ = some (.int .i64 s.y) ∧ W.cell? ⟨b4, o4 + i * 13 + 8, none⟩ = some (.slice Z0 s.large.length d0) ∧ W.cell? ⟨b4, o4 + i * 13 + 9, none⟩ = some (.slice Z1 l0.length d1) ∧ W.cell? ⟨b4, o4 + i * 13 + 10, none⟩ = some (.slice Z2 l1.length d2) ∧ W.cell? ⟨b4, o4 + i * 13 + 11, none⟩ = some (.slice Z3 l2.length d3) ∧ W.cell? ⟨b4, o4 + i * 13 + 12, none⟩ = some (.slice Z4 l3.length d4)) := by
           intro W h
           obtain ⟨⟨c0, c1⟩, ⟨c2, c3, c4, c5⟩, ⟨c6, c7, c8⟩, c9, c10, c11, c12⟩ := h.n.all4
           obtain ⟨⟨e0, e1⟩, ⟨e2, e3, e4, e5⟩, ⟨e6, e7, e8⟩, e9, e10, e11, e12⟩ := h.a.all4
           obtain ⟨⟨t0, t1⟩, ⟨t2, t3, t4, t5⟩, ⟨t6, t7, t8⟩, t9, t10, t11, t12⟩ := h.c.all4
           obtain ⟨⟨r0, r1⟩, ⟨r2, r3, r4, r5⟩, ⟨r6, r7, r8⟩, r9, r10, r11, r12⟩ := SL.out.2.1 W h.T.bel
           exact ⟨⟨⟨c0, c1, c2, c3, c4, c5, c6, c7, c8, c9, c10, c11, c12⟩, ⟨e0, e1, e2, e3, e4, e5, e6, e7, e8, e9, e10, e11, e12⟩, t0, t1, t2, t3, t4, t5, t6, t7, t8, t9, t10, t11, t12⟩, blk2R h.e, r0, r1, r2, r3, r4, r5, r6, r7, r8, r9, r10, r11, r12⟩
         have HCL := hid hcells
         have K7 := hid (hcells _ K8.out)
         have K8d := hid (K8.out.below (Below.refl w8.heap.size w8).drew)
         have K7d := hid (hcells _ K8d.out)
         have HS1 := hid (fun W (h : KW w b1 b2 eb F6 G7 s7 t7 h9 h10 h12 s m0 m1 m2 m3 (.slice (some ⟨g0, 0, none⟩) s.large.length y0) (.slice (some ⟨g1, 0, none⟩) l0.length y1) (.slice (some ⟨g2, 0, none⟩) l1.length y2) (.slice (some ⟨g3, 0, none⟩) l2.length y3) (.slice (some ⟨g4, 0, none⟩) l3.length y4) q p0 p1 p2 p3 (.slice A0 n0 n0) (.slice A1 n1 n1) (.slice A2 n2 n2) (.slice A3 n3 n3) (.slice A4 n4 n4) (.slice C0 f0 f0) (.slice C1 f1 f1) (.slice C2 f2 f2) (.slice C3 f3 f3) (.slice C4 f4 f4) l0 l1 l2 l3 j0 j1 j2 j3 no W) => h.same1 QL.out)
         have HS2 := hid (fun W (h : KW w b1 b2 eb F6 G7 s7 t7 h9 h10 h12 s m0 m1 m2 m3 (.slice (some ⟨g0, 0, none⟩) s.large.length y0) (.slice (some ⟨g1, 0, none⟩) l0.length y1) (.slice (some ⟨g2, 0, none⟩) l1.length y2) (.slice (some ⟨g3, 0, none⟩) l2.length y3) (.slice (some ⟨g4, 0, none⟩) l3.length y4) q p0 p1 p2 p3 (.slice A0 n0 n0) (.slice A1 n1 n1) (.slice A2 n2 n2) (.slice A3 n3 n3) (.slice A4 n4 n4) (.slice C0 f0 f0) (.slice C1 f1 f1) (.slice C2 f2 f2) (.slice C3 f3 f3) (.slice C4 f4 f4) l0 l1 l2 l3 j0 j1 j2 j3 no W) => h.same2 SL.out.1 h.T.bel SL.out.2.2)
         have HEC := hid (fun W (h : KW w b1 b2 eb F6 G7 s7 t7 h9 h10 h12 s m0 m1 m2 m3 (.slice (some ⟨g0, 0, none⟩) s.large.length y0) (.slice (some ⟨g1, 0, none⟩) l0.length y1) (.slice (some ⟨g2, 0, none⟩) l1.length y2) (.slice (some ⟨g3, 0, none⟩) l2.length y3) (.slice (some ⟨g4, 0, none⟩) l3.length y4) q p0 p1 p2 p3 (.slice A0 n0 n0) (.slice A1 n1 n1) (.slice A2 n2 n2) (.slice A3 n3 n3) (.slice A4 n4 n4) (.slice C0 f0 f0) (.slice C1 f1 f1) (.slice C2 f2 f2) (.slice C3 f3 f3) (.slice C4 f4 f4) l0 l1 l2 l3 j0 j1 j2 j3 no W) => err_same no W (HG.out.1.below h.T.bel HG.out.2))
         unfold sqV at HS1 HS2
         clear hcells
         go_region_held_law (fun W => ((W.cell? ⟨h9, 0, none⟩ = some (.int .i64 s.kind) ∧ W.cell? ⟨h9, 1, none⟩ = some (.int .i64 s.mode) ∧ W.cell? ⟨h9, 2, none⟩ = some (.int .i64 m0) ∧ W.cell? ⟨h9, 3, none⟩ = some (.int .i64 m1) ∧ W.cell? ⟨h9, 4, none⟩ = some (.int .i64 m2) ∧ W.cell? ⟨h9, 5, none⟩ = some (.int .i64 m3) ∧ W.cell? ⟨h9, 6, none⟩ = some (.int .i64 s.x) ∧ W.cell? ⟨h9, 7, none⟩ = some (.int .i64 s.y) ∧ W.cell? ⟨h9, 8, none⟩ = some (.slice (some ⟨g0, 0, none⟩) s.large.length y0) ∧ W.cell? ⟨h9, 9, none⟩ = some (.slice (some ⟨g1, 0, none⟩) l0.length y1) ∧ W.cell? ⟨h9, 10, none⟩ = some (.slice (some ⟨g2, 0, none⟩) l1.length y2) ∧ W.cell? ⟨h9, 11, none⟩ = some (.slice (some ⟨g3, 0, none⟩) l2.length y3) ∧ W.cell? ⟨h9, 12, none⟩ = some (.slice (some ⟨g4, 0, none⟩) l3.length y4)) ∧ (W.cell? ⟨h10, 0, none⟩ = some (.int .i64 q.kind) ∧ W.cell? ⟨h10, 1, none⟩ = some (.int .i64 q.mode) ∧ W.cell? ⟨h10, 2, none⟩ = some (.int .i64 p0) ∧ W.cell? ⟨h10, 3, none⟩ = some (.int .i64 p1) ∧ W.cell? ⟨h10, 4, none⟩ = some (.int .i64 p2) ∧ W.cell? ⟨h10, 5, none⟩ = some (.int .i64 p3) ∧ W.cell? ⟨h10, 6, none⟩ = some (.int .i64 q.x) ∧ W.cell? ⟨h10, 7, none⟩ = some (.int .i64 q.y) ∧ W.cell? ⟨h10, 8, none⟩ = some (.slice A0 n0 n0) ∧ W.cell? ⟨h10, 9, none⟩ = some (.slice A1 n1 n1) ∧ W.cell? ⟨h10, 10, none⟩ = some (.slice A2 n2 n2) ∧ W.cell? ⟨h10, 11, none⟩ = some (.slice A3 n3 n3) ∧ W.cell? ⟨h10, 12, none⟩ = some (.slice A4 n4 n4)) ∧ (W.cell? ⟨h12, 0, none⟩ = some (.int .i64 q.kind) ∧ W.cell? ⟨h12, 1, none⟩ = some (.int .i64 q.mode) ∧ W.cell? ⟨h12, 2, none⟩ = some (.int .i64 p0) ∧ W.cell? ⟨h12, 3, none⟩ = some (.int .i64 p1) ∧ W.cell? ⟨h12, 4, none⟩ = some (.int .i64 p2) ∧ W.cell? ⟨h12, 5, none⟩ = some (.int .i64 p3) ∧ W.cell? ⟨h12, 6, none⟩ = some (.int .i64 q.x) ∧ W.cell? ⟨h12, 7, none⟩ = some (.int .i64 q.y) ∧ W.cell? ⟨h12, 8, none⟩ = some (.slice C0 f0 f0) ∧ W.cell? ⟨h12, 9, none⟩ = some (.slice C1 f1 f1) ∧ W.cell? ⟨h12, 10, none⟩ = some (.slice C2 f2 f2) ∧ W.cell? ⟨h12, 11, none⟩ = some (.slice C3 f3 f3) ∧ W.cell? ⟨h12, 12, none⟩ = some (.slice C4 f4 f4))) ∧ (W.cell? ⟨h12 + 1, 0, none⟩ = some (.int .i64 no) ∧ W.cell? ⟨h12 + 1, 1, none⟩ = some nilS) ∧ (W.cell? ⟨b4, o4 + i * 13, none⟩ = some (.int .i64 s.kind) ∧ W.cell? ⟨b4, o4 + i * 13 + 1, none⟩ = some (.int .i64 s.mode) ∧ W.cell? ⟨b4, o4 + i * 13 + 2, none⟩ = some (.int .i64 m0) ∧ W.cell? ⟨b4, o4 + i * 13 + 3, none⟩ = some (.int .i64 m1) ∧ W.cell? ⟨b4, o4 + i * 13 + 4, none⟩ = some (.int .i64 m2) ∧ W.cell? ⟨b4, o4 + i * 13 + 5, none⟩ = some (.int .i64 m3) ∧ W.cell? ⟨b4, o4 + i * 13 + 6, none⟩ = some (.int .i64 s.x) ∧ W.cell? ⟨b4, o4 + i * 13 + 7, none⟩ = some (.int .i64 s.y) ∧ W.cell? ⟨b4, o4 + i * 13 + 8, none⟩ = some (.slice Z0 s.large.length d0) ∧ W.cell? ⟨b4, o4 + i * 13 + 9, none⟩ = some (.slice Z1 l0.length d1) ∧ W.cell? ⟨b4, o4 + i * 13 + 10, none⟩ = some (.slice Z2 l1.length d2) ∧ W.cell? ⟨b4, o4 + i * 13 + 11, none⟩ = some (.slice Z3 l2.length d3) ∧ W.cell? ⟨b4, o4 + i * 13 + 12, none⟩ = some (.slice Z4 l3.length d4)))
           (with_reducible first | exact K12.out | exact K11.out | exact K10.out | exact K9.out | exact K7d.out | exact K7.out)
           (first
             | (go_at_call 13
                have hN := Q11.out
                refine (HS2.out _ hN).mono ?_
                rintro e w12 ⟨rfl, hb⟩
                have Q12 := hid (hN.below hb)
                have K12 := hid (HCL.out _ Q12.out)
                clear hb hN)
             | (go_at_call 12
                have hN := Q10.out
                refine (HPL.out _).mono ?_
                rintro e w11 ⟨rfl, hb⟩
                have Q11 := hid (hN.below hb)
                have K11 := hid (HCL.out _ Q11.out)
                clear hb hN)
             | (go_at_call 14
                have hN := Q9.out
                refine (HEC.out _ hN).mono ?_
                rintro e w10 ⟨rfl, hb⟩
                have Q10 := hid (hN.below hb)
                have K10 := hid (HCL.out _ Q10.out)
                clear hb hN)
             | (go_at_call 13
                have hN := K8d.out
                refine (HS1.out _ hN).mono ?_
                rintro e w9 ⟨rfl, hb⟩
                have Q9 := hid (hN.below hb)
                have K9 := hid (HCL.out _ Q9.out)
                clear hb hN)
             | fail)
         go_wp2_with fail
         go_roundg (gk - 1)
         case measure => have := HI.out.1; have := HI.out.2.1; omega
         case rel => exact ⟨i + 1, s7, t7, F6, G7, m7, m8, by have := HI.out.1; have := HI.out.2.1; omega, by go_num, Q12.out.T, OKS.out.1, by omega, OKS.out.2.1, OKS.out.2.2⟩
      · obtain rfl : i = l.length := by omega
        have h9 : decide (l.length < l.length) = false := decide_eq_false (by omega)
        have e1 : decide ((l.length : Int) < (l.length : Int)) = false := by simp
        have hE := xw_E O.out.1.r
        have EB := hid (simw_bytes O.out.2.1)
        have T5 := hid (O.out.1.below (wr_coder b1) (xw_coder b2 eb) (Below.refl wr.heap.size wr).drew)
        clear hown hsim hok hok2 hik hlt
        go_wp2_with fail
        go_region_held3 (fun W => W.cell? ⟨b2, 1, none⟩ = some (.pointer (some ⟨eb, 0, none⟩)))
          (first
            | exact hE8
            | exact hE7
            | exact hE6
            | exact hE)
          (first
            | (go_at_call 5
               refine (first20 _ (by exact HG.out.1.below T5.out.bel HG.out.2)).mono ?_
               rintro e w9 ⟨rfl, h9⟩
               have T6 := hid (T5.out.below (wr_coder b1) (xw_coder b2 eb) h9)
               have hE6 := xw_E T6.out.r
               clear h9)
            | (go_at_call 16
               refine (wr_endA b1 _ F st m (by exact T6.out.l) O.out.2.2.1 (by omega)).mono ?_
               rintro e w12 ⟨g1, p1, rfl, o1, b1'⟩
               have T7 := hid (T6.out.below (wr_coder b1) (xw_coder b2 eb) b1')
               have O1 := hid (From.of_own o1)
               have hE7 := xw_E T7.out.r
               clear o1 b1')
            | (go_at_call 17
               refine (xw_endS b2 eb _ G t (by exact T7.out.r)).mono ?_
               rintro e w13 ⟨g2, p2, rfl, o2, b2'⟩
               rw [EB.out] at o2
               rw [EB.out]
               have T8 := hid (T7.out.below (wr_coder b1) (xw_coder b2 eb) b2')
               have hE8 := xw_E T8.out.r
               have O2b := hid (From.of_own o2)
               have O3b := hid (From.belowS O1.out b2')
               clear o2 b2')
            | (go_at_call 15
               refine (bytes_same (by exact O3b.out) (by exact O2b.out)).mono ?_
               rintro e w14 ⟨rfl, rfl⟩))
        all_goals
          go_wp2_with fail
          go_ret
          exact ⟨rfl, T8.out.bel⟩
end Go.Proofs.YtkkgpdejmcpcpaaGreatDoor

/- What the rows lay of package errors. -/
namespace Go.Proofs.YtkkgpdejmcpcpaaGreatDoor
open Go.ChangeShapes Go.WideShapes Go.ChangeAt Go.RowKit Go.Deep

/-! ### What the rows lay -/
def laidHere : List (String × DataW Unit) := [("errors.errorType", Rows.laid_errors_errorType)]
theorem ownH : ownKnob Tryz.prog.godebug = none := by kernel_rfl
theorem laidOutH : laidOutB Tryz.prog = true := by kernel_rfl
theorem etH : Tryz.prog.globalNamed "errors.errorType" = some 0 := by kernel_rfl
theorem rtH : (Tryz.prog.cutTypes.find? (·.1 == "internal/reflectlite.rtype")).map (·.2) = some 170 := by kernel_rfl
theorem oneRowH : ((List.range Tryz.prog.types.size).filter fun t => Tryz.prog.rowNamed t [101, 114, 114, 111, 114]) = [39] := by kernel_rfl
theorem errT_of_laid {W : World} (h : laidMetH Tryz.prog laidHere W) : ErrT W := by
  have h' : laidMet Tryz.prog [] W ∧ handlesMet Tryz.prog laidHere W := h
  obtain ⟨name, u, ty, e1, e2, e3, e4, e5⟩ := h'.2 _ (List.mem_singleton.2 rfl)
  have en : name = [101, 114, 114, 111, 114] := (Option.some.inj e1).symm
  subst en
  obtain rfl := Option.some.inj (rtH.symm.trans e2)
  have hm : ty ∈ (List.range Tryz.prog.types.size).filter fun t => Tryz.prog.rowNamed t [101, 114, 114, 111, 114] := List.mem_filter.2 ⟨List.mem_range.2 e3, e4⟩
  rw [oneRowH] at hm
  obtain rfl := List.mem_singleton.1 hm
  have hh : typeHandle Tryz.prog 39 = .pointer (some ⟨1, 39, none⟩) := by kernel_rfl
  rw [hh] at e5
  have := World.var?_cell etH e5 0
  unfold ErrT
  simpa using this
/-- A world that meets the condition. -/
noncomputable def laidWorld (os : Os) : World :=
  let w0 := World.holding Tryz.prog os ⟨#[], #[], []⟩
  { w0 with heap := w0.heap.modify 0 fun
      | .cells _ t frozen => .cells #[.iface 170 (.agg #[.pointer (some ⟨1, 39, none⟩)])] t frozen
      | o => o }
theorem laidWorld_met (os : Os) (args : Array Value) : laidMetH Tryz.prog laidHere ((laidWorld os).forCall (fun _ _ => 0) ⟨#[], args, []⟩).memory :=
  laidMetH_of_parts (laidMet_nil _ _) (by kernel_rfl)
end Go.Proofs.YtkkgpdejmcpcpaaGreatDoor

