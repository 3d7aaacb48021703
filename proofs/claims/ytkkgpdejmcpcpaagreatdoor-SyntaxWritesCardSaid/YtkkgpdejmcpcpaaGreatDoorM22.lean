/- Parts: XOwnC, XNums, XPart. -/
import Derived.Test.YtkkgpdejmcpcpaaGreatDoorM21
import Derived.Test.YtkkgpdejmcpcpaaGreatDoorM15
/- A coder of one's own; what a square asks and answers. -/
namespace Go.Proofs.YtkkgpdejmcpcpaaGreatDoor
open Go.RowKit

/-- A coder of one's own. -/
structure OwnC {σ : Type} (At : World → (Nat → Prop) → σ → Prop) (w : World) (s : σ) (W : World) (F : Nat → Prop) : Prop where
  a : At W F s
  lo : ∀ k, F k → w.heap.size ≤ k
  bel : Below w.heap.size w W
section
variable {σ : Type} {M : Mach σ} {fB fF : FuncId} {me : Value} {At : World → (Nat → Prop) → σ → Prop} {Ok : σ → Nat → Prop} {w W W' : World} {s s' : σ} {F F' : Nat → Prop}
theorem OwnC.below (H : IsCoder M fB fF me At Ok) (h : OwnC At w s W F) (hb : Below W.heap.size W W') : OwnC At w s W' F :=
  ⟨H.keep _ _ F (fun _ => False) s h.a (Only.of_below hb) (fun _ _ h => h), h.lo, h.bel.trans (hb.mono h.bel.size)⟩
theorem OwnC.code (h : OwnC At w s W F) (c : CW At W F s' W' F') : OwnC At w s' W' F' :=
  ⟨c.a, fun k hk => by
    rcases c.f k hk with h1 | h1
    · exact h.lo k h1
    · exact Nat.le_trans h.bel.size h1, h.bel.trans ⟨c.o.os, c.o.tape, c.o.output, c.o.size, fun k hk => c.o.block k (by have := h.bel.size; omega) (fun hF => by have := h.lo k hF; omega)⟩⟩
theorem OwnC.at_new (H : IsCoder M fB fF me At Ok) (h : OwnC At w s W F) : ¬ F W.heap.size := fun hF => by
  have := H.there _ _ _ _ h.a hF
  omega
end
def sdOf (b : Bool) : Nat := if b then 8 else 4
def baseOf (b : Bool) : Nat := if b then 39 else 14
def nOf (b : Bool) : Nat := if b then 64 else 16
theorem sized_zeros (b : Bool) : Sized (zerosL (nOf b)) (sdOf b) (baseOf b) := by
  cases b
  · exact .inl ⟨rfl, rfl, by simp [zerosL, nOf]⟩
  · exact .inr ⟨rfl, rfl, by simp [zerosL, nOf]⟩
theorem zeros_in (n : Nat) : (zerosL n).any lvOut = false := by
  rw [Bool.eq_false_iff]
  intro h
  obtain ⟨v, hv, hp⟩ := List.any_eq_true.1 h
  have := List.eq_of_mem_replicate hv
  subst this
  exact Bool.noConfusion hp
theorem ord_sized {l : List Int} {sd base : Nat} (h : Sized l sd base) : OrdOk (ordOf sd) l.length ∧ base ≤ 39 ∧ 0 < l.length := by
  rcases h with ⟨rfl, rfl, h⟩ | ⟨rfl, rfl, h⟩
  · rw [h]; exact ⟨ord4_ok, by omega, by omega⟩
  · rw [h]; exact ⟨ord8_ok, by omega, by omega⟩
/-- How many bits a square asks. -/
theorem ok_square {σ : Type} {M : Mach σ} {fB fF : FuncId} {me : Value} {At : World → (Nat → Prop) → σ → Prop} {Ok : σ → Nat → Prop} (H : IsCoder M fB fF me At Ok) {l : List Int} {sd base : Nat} (hsd : Sized l sd base) (s : σ) (lim : Nat) (h : Ok s lim) :
    ∃ m, m ≤ lim + 8300 ∧ Ok (M.run (squareA base (ordOf sd) l) s).2 m := by
  obtain ⟨ho, hb, _⟩ := ord_sized hsd
  obtain ⟨m, hm, hk⟩ := H.okRun (squareA base (ordOf sd) l) (43 * (ordOf sd).length + 1) (ctx_square base hb _ _) (most_square base _ _) s lim h
  refine ⟨m, ?_, hk⟩
  have : (ordOf sd).length ≤ 64 := by
    rw [ho.len]
    rcases hsd with h | h <;> omega
  omega
theorem ans_square {σ : Type} {M : Mach σ} {l : List Int} {sd base : Nat} (hsd : Sized l sd base) (s : σ) : SqOk l.length (M.run (squareA base (ordOf sd) l) s).1 := by
  obtain ⟨ho, _, _⟩ := ord_sized hsd
  exact All.run M (all_square base (ordOf sd) l ho.len) s
theorem nums_blk {W : World} {g : Nat} {l : List Int} {cs : Array Value} (h : Blk W g 3 cs) (hc : cs = (l.map intV).toArray) : Nums W (.slice (some ⟨g, 0, none⟩) l.length l.length) l := (noff_new (F := fun _ => False) h hc rfl (fun h => h)).n
section
variable {σ τ : Type} {M : Mach σ} {N : Mach τ} {f1 f2 f3 f4 : FuncId} {m1 m2 : Value} {A1 : World → (Nat → Prop) → σ → Prop} {A2 : World → (Nat → Prop) → τ → Prop} {O1 : σ → Nat → Prop} {O2 : τ → Nat → Prop}
variable {B : Nat} {w0 wr w' : World} {F F' G G' : Nat → Prop} {s s' : σ} {t t' : τ}
theorem TwoAt.leftC (H2 : IsCoder N f3 f4 m2 A2 O2) (T : TwoAt B w0 A1 A2 F G s t wr) (c : CW A1 wr F s' w' F') : TwoAt B w0 A1 A2 F' G s' t w' :=
  ⟨c.a, H2.keep _ _ G F t T.r c.o (fun k hk hf => T.dis k hf hk), fun k hk hg => by
    rcases c.f k hk with h | h
    · exact T.dis k h hg
    · have := H2.there _ _ _ _ T.r hg
      omega, fun k hk => by
    have := T.size
    rcases c.f k hk with h | h
    · exact T.lB k h
    · omega, T.rB, T.bel.trans ⟨c.o.os, c.o.tape, c.o.output, c.o.size, fun k hk => c.o.block k (by have := T.size; omega) (fun h => by have := T.lB k h; omega)⟩, Nat.le_trans T.size c.o.size⟩
theorem TwoAt.rightC (H1 : IsCoder M f1 f2 m1 A1 O1) (T : TwoAt B w0 A1 A2 F G s t wr) (c : CW A2 wr G t' w' G') : TwoAt B w0 A1 A2 F G' s t' w' :=
  ⟨H1.keep _ _ F G s T.l c.o (fun k hk hg => T.dis k hk hg), c.a, fun k hk hg => by
    rcases c.f k hg with h | h
    · exact T.dis k hk h
    · have := H1.there _ _ _ _ T.l hk
      omega, T.lB, fun k hk => by
    have := T.size
    rcases c.f k hk with h | h
    · exact T.rB k h
    · omega, T.bel.trans ⟨c.o.os, c.o.tape, c.o.output, c.o.size, fun k hk => c.o.block k (by have := T.size; omega) (fun h => by have := T.rB k h; omega)⟩, Nat.le_trans T.size c.o.size⟩
end
end Go.Proofs.YtkkgpdejmcpcpaaGreatDoor

/- Kind, Mode: at whatever coder. -/
namespace Go.Proofs.YtkkgpdejmcpcpaaGreatDoor
open Go.RowKit

section
variable {σ : Type} {M : Mach σ} {fB fF : FuncId} {At : World → (Nat → Prop) → σ → Prop} {Ok : σ → Nat → Prop}

/-- A number coded: the ending, and the object. -/
def Coded (At : World → (Nat → Prop) → σ → Prop) (w : World) (F : Nat → Prop) (x : Int × σ) (e : Ending) (w' : World) : Prop := e = .returned (.int .i64 x.1) ∧ Moved At w F x.2 w'
def OnesRel (M : Mach σ) (At : World → (Nat → Prop) → σ → Prop) (Ok : σ → Nat → Prop) (f : Nat → Nat) (kk : Int) (top lim : Nat) (fin : Nat × σ) (w0 : World) (F : Nat → Prop) (j : Nat) (i : Value) (wr : World) : Prop :=
  ∃ (n : Nat) (s' : σ), n + j = top ∧ i = .int .i64 n ∧ Moved At w0 F s' wr ∧ Ok s' (lim + 3 * n) ∧ M.ones f kk j n s' = fin

theorem ones_yes {f : Nat → Nat} {kk : Int} {j n : Nat} {s : σ} (h : (M.bit s (f n) (decide ((n : Int) < kk))).1 = true) : M.ones f kk (j + 1) n s = M.ones f kk j (n + 1) (M.bit s (f n) (decide ((n : Int) < kk))).2 := by
  rw [Mach.ones, if_pos h]
theorem ones_no {f : Nat → Nat} {kk : Int} {j n : Nat} {s : σ} (h : (M.bit s (f n) (decide ((n : Int) < kk))).1 = false) : M.ones f kk (j + 1) n s = (n, (M.bit s (f n) (decide ((n : Int) < kk))).2) := by
  rw [Mach.ones, if_neg (by rw [h]; decide)]

set_option maxRecDepth 100000 in
set_option maxHeartbeats 400000 in
theorem kind_any (b : Nat) (T : TypeId) (H : IsCoder M fB fF (.pointer (some ⟨b, 0, none⟩)) At Ok) (Sp : Speaks T (.pointer (some ⟨b, 0, none⟩)) fB fF) (k : Int) (s : σ) (w : World) (F : Nat → Prop) (lim : Nat) (hs : At w F s) (ho : Ok s lim) (hl : lim + 100 ≤ 1000000000) :
    Calls Tryz.prog 34 #[.iface T (.pointer (some ⟨b, 0, none⟩)), .int .i64 k] w (Coded At w F (M.kind (cut k 0 3) s)) := by
  have S := hid (And.intro hs ho)
  have hm := Sp.bit
  have hcb := Sp.callBit
  clear hs ho
  go_enter Tryz.func34, Tryz.ntmps34
  go_wp2_with (go_at_call 57; refine (bound_any k 0 3 _).mono ?_; rintro e w' ⟨rfl, rfl⟩)
  generalize cut k 0 3 = kk at *
  go_loopg [5] 3 (fun j i wr => OnesRel M At Ok (fun n => n) kk 3 lim (M.ones (fun n => n) kk 3 0 s) w F j i wr)
  case atStart => exact ⟨0, s, rfl, rfl, Moved.refl S.out.1, S.out.2, rfl⟩
  case round =>
    obtain ⟨n, s', hn, rfl, hmv, ho, hfin⟩ := hrel
    have X := hid (And.intro hmv (And.intro ho hfin))
    clear hmv ho hfin
    by_cases h3 : n < 3
    · obtain ⟨j, rfl⟩ : ∃ j, gk = j + 1 := ⟨gk - 1, by omega⟩
      have hd : decide ((n : Int) < kk) = true ∨ decide ((n : Int) < kk) = false := by cases decide ((n : Int) < kk) <;> simp
      obtain ⟨F1, a1, o1, f1⟩ := X.out.1
      have Y := hid (And.intro a1 (And.intro o1 f1))
      clear a1 o1 f1
      go_wp2_with fail
      refine (H.bitN _ F1 s' n (n : Int) rfl (by omega) _ (lim + 3 * n) Y.out.1 X.out.2.1 (by omega)).mono ?_
      rintro e w1 ⟨rfl, h1, ok2⟩
      have Z := hid (And.intro (Moved.step Y.out.2.1 Y.out.2.2 h1) ok2)
      clear h1 hm hcb ok2 hd
      cases hq : (M.bit s' n (decide ((n : Int) < kk))).1 with
      | true =>
        have Q := hid hq
        clear hq
        go_wp2_with fail
        obtain ⟨z1, z2⟩ := Z.out
        go_roundg j
        case measure => omega
        case rel => exact ⟨n + 1, _, by omega, by go_num, z1, by rw [show lim + 3 * (n + 1) = lim + 3 * n + 3 by omega]; exact z2, by rw [← X.out.2.2, ones_yes (f := fun n => n) Q.out]⟩
      | false =>
        have Q := hid hq
        clear hq
        go_wp2_with fail
        go_ret
        obtain ⟨z1, z2⟩ := Z.out
        have e : M.kind kk s = ((n : Int), (M.bit s' n (decide ((n : Int) < kk))).2) := by
          unfold Mach.kind
          rw [← X.out.2.2, ones_no (f := fun n => n) Q.out]
        rw [e]
        exact ⟨rfl, z1⟩
    · obtain rfl : n = 3 := by omega
      obtain rfl : gk = 0 := by omega
      go_wp2_with fail
      go_ret
      have e : M.kind kk s = ((3 : Int), s') := by
        unfold Mach.kind
        rw [← X.out.2.2]
        rfl
      rw [e]
      exact ⟨rfl, X.out.1⟩

theorem cut_03 (m : Int) : 0 ≤ cut m 0 3 ∧ cut m 0 3 ≤ 3 := by unfold cut; omega
theorem cut_15 (m : Int) : -15 ≤ cut m (-15) 15 ∧ cut m (-15) 15 ≤ 15 := by unfold cut; omega

set_option maxRecDepth 100000 in
set_option maxHeartbeats 400000 in
theorem mode_any (b : Nat) (T : TypeId) (H : IsCoder M fB fF (.pointer (some ⟨b, 0, none⟩)) At Ok) (Sp : Speaks T (.pointer (some ⟨b, 0, none⟩)) fB fF) (m : Int) (s : σ) (w : World) (F : Nat → Prop) (lim : Nat) (hs : At w F s) (ho : Ok s lim) (hl : lim + 100 ≤ 1000000000) :
    Calls Tryz.prog 58 #[.iface T (.pointer (some ⟨b, 0, none⟩)), .int .i64 m] w (Coded At w F (M.mode m s)) := by
  have hc := cut_03 m
  have hmo : M.mode m s = ((if (M.bit s 3 (decide (1 < cut m 0 3))).1 then 2 else 0) + (if (M.bit (M.bit s 3 (decide (1 < cut m 0 3))).2 (if (M.bit s 3 (decide (1 < cut m 0 3))).1 then 5 else 4) (decide (cut m 0 3 % 2 = 1))).1 then 1 else 0), (M.bit (M.bit s 3 (decide (1 < cut m 0 3))).2 (if (M.bit s 3 (decide (1 < cut m 0 3))).1 then 5 else 4) (decide (cut m 0 3 % 2 = 1))).2) := rfl
  have S := hid (And.intro hs ho)
  have hm := Sp.bit
  have hcb := Sp.callBit
  have MO := hid hmo
  clear hs ho hmo
  go_enter Tryz.func58, Tryz.ntmps58
  go_wp2_with (go_at_call 57; refine (bound_any m 0 3 _).mono ?_; rintro e w' ⟨rfl, rfl⟩)
  generalize cut m 0 3 = mm at *
  refine (H.bitN _ F s 3 _ rfl (by omega) _ lim S.out.1 S.out.2 (by omega)).mono ?_
  rintro e w1 ⟨rfl, ⟨F1, a1, o1, f1⟩, ok1⟩
  have Y := hid (And.intro a1 (And.intro o1 (And.intro f1 ok1)))
  clear a1 o1 f1 ok1
  cases hq : (M.bit s 3 (decide (1 < mm))).1 with
  | true =>
    have Q := hid hq
    clear hq
    go_wp2_with fail
    refine (H.bitN _ F1 _ 5 _ rfl (by omega) _ _ Y.out.1 Y.out.2.2.2 (by omega)).mono ?_
    rintro e w2 ⟨rfl, h2, ok2⟩
    have Z := hid (Moved.step Y.out.2.1 Y.out.2.2.1 h2)
    clear h2 ok2
    have e2 : (mm % 2 == 1) = decide (mm % 2 = 1) := by cases h : decide (mm % 2 = 1) <;> simp_all
    have E2 := hid e2
    clear e2
    cases hq2 : (M.bit (M.bit s 3 (decide (1 < mm))).2 5 (mm % 2 == 1)).1 with
    | true =>
      have Q2 := hid hq2
      clear hq2
      go_wp2_with fail
      go_ret
      have q2 := Q2.out
      have z := Z.out
      rw [E2.out] at q2 z
      rw [MO.out, Q.out]
      simp only [if_true, q2]
      exact ⟨rfl, z⟩
    | false =>
      have Q2 := hid hq2
      clear hq2
      go_wp2_with fail
      go_ret
      have q2 := Q2.out
      have z := Z.out
      rw [E2.out] at q2 z
      rw [MO.out, Q.out]
      simp only [if_true, q2]
      exact ⟨rfl, z⟩
  | false =>
    have Q := hid hq
    clear hq
    go_wp2_with fail
    refine (H.bitN _ F1 _ 4 _ rfl (by omega) _ _ Y.out.1 Y.out.2.2.2 (by omega)).mono ?_
    rintro e w2 ⟨rfl, h2, ok2⟩
    have Z := hid (Moved.step Y.out.2.1 Y.out.2.2.1 h2)
    clear h2 ok2
    have e2 : (mm % 2 == 1) = decide (mm % 2 = 1) := by cases h : decide (mm % 2 = 1) <;> simp_all
    have E2 := hid e2
    clear e2
    cases hq2 : (M.bit (M.bit s 3 (decide (1 < mm))).2 4 (mm % 2 == 1)).1 with
    | true =>
      have Q2 := hid hq2
      clear hq2
      go_wp2_with fail
      go_ret
      have q2 := Q2.out
      have z := Z.out
      rw [E2.out] at q2 z
      rw [MO.out, Q.out]
      simp only [Bool.false_eq_true, if_false, q2, if_true]
      exact ⟨rfl, z⟩
    | false =>
      have Q2 := hid hq2
      clear hq2
      go_wp2_with fail
      go_ret
      have q2 := Q2.out
      have z := Z.out
      rw [E2.out] at q2 z
      rw [MO.out, Q.out]
      simp only [Bool.false_eq_true, if_false, q2]
      exact ⟨rfl, z⟩

end
end Go.Proofs.YtkkgpdejmcpcpaaGreatDoor

/- Part: at whatever coder. -/
namespace Go.Proofs.YtkkgpdejmcpcpaaGreatDoor
open Go.RowKit
section
variable {σ : Type} {M : Mach σ} {fB fF : FuncId} {At : World → (Nat → Prop) → σ → Prop} {Ok : σ → Nat → Prop}

def partCtx (n : Nat) : Nat := 7 + min n 6
theorem partCtx_lt (n : Nat) : partCtx n < 64 := by unfold partCtx; omega
theorem part_def (M : Mach σ) (v : Int) (s : σ) : M.part v s =
    (if (M.bit s 6 (decide (cut v (-15) 15 ≠ 0))).1 then
      (if (M.flat (M.bit s 6 (decide (cut v (-15) 15 ≠ 0))).2 (decide (cut v (-15) 15 < 0))).1 then -((M.ones partCtx (max (cut v (-15) 15) (-(cut v (-15) 15)) - 1) 14 0 (M.flat (M.bit s 6 (decide (cut v (-15) 15 ≠ 0))).2 (decide (cut v (-15) 15 < 0))).2).1 : Int) - 1
        else ((M.ones partCtx (max (cut v (-15) 15) (-(cut v (-15) 15)) - 1) 14 0 (M.flat (M.bit s 6 (decide (cut v (-15) 15 ≠ 0))).2 (decide (cut v (-15) 15 < 0))).2).1 : Int) + 1,
        (M.ones partCtx (max (cut v (-15) 15) (-(cut v (-15) 15)) - 1) 14 0 (M.flat (M.bit s 6 (decide (cut v (-15) 15 ≠ 0))).2 (decide (cut v (-15) 15 < 0))).2).2)
      else (0, (M.bit s 6 (decide (cut v (-15) 15 ≠ 0))).2)) := rfl

set_option maxRecDepth 100000 in
set_option maxHeartbeats 800000 in
theorem part_any (b : Nat) (T : TypeId) (H : IsCoder M fB fF (.pointer (some ⟨b, 0, none⟩)) At Ok) (Sp : Speaks T (.pointer (some ⟨b, 0, none⟩)) fB fF) (v : Int) (s : σ) (w : World) (F : Nat → Prop) (lim : Nat) (hs : At w F s) (ho : Ok s lim) (hl : lim + 100 ≤ 1000000000) :
    Calls Tryz.prog 60 #[.iface T (.pointer (some ⟨b, 0, none⟩)), .int .i64 v] w (Coded At w F (M.part v s)) := by
  have hc := cut_15 v
  have hpd := part_def M v s
  have S := hid (And.intro hs ho)
  have hm := Sp.bit
  have hcb := Sp.callBit
  have hm2 := Sp.flat
  have hcb2 := Sp.callFlat
  have PD := hid hpd
  clear hs ho hpd
  go_enter Tryz.func60, Tryz.ntmps60
  go_wp2_with (go_at_call 57; refine (bound_any v (-15) 15 _).mono ?_; rintro e w' ⟨rfl, rfl⟩)
  generalize cut v (-15) 15 = vv at *
  have e1 : (vv != 0) = decide (vv ≠ 0) := by cases h : decide (vv ≠ 0) <;> simp_all
  have E1 := hid e1
  clear e1
  refine (H.bitN _ F s 6 _ rfl (by omega) _ lim S.out.1 S.out.2 (by omega)).mono ?_
  rintro e w1 ⟨rfl, ⟨F1, a1, o1, f1⟩, ok1⟩
  rw [E1.out] at *
  have Y := hid (And.intro a1 (And.intro o1 (And.intro f1 ok1)))
  clear a1 o1 f1 ok1
  cases hq : (M.bit s 6 (decide (vv ≠ 0))).1 with
  | false =>
    have Q := hid hq
    clear hq
    go_wp2_with fail
    go_ret
    rw [PD.out, Q.out]
    simp only [Bool.false_eq_true, if_false]
    exact ⟨rfl, F1, Y.out.1, Y.out.2.1, Y.out.2.2.1⟩
  | true =>
    have Q := hid hq
    clear hq
    generalize hs1 : (M.bit s 6 (decide (vv ≠ 0))).2 = s1 at *
    have HS1 := hid hs1
    clear hs1
    go_wp2_with fail
    refine (H.flatN _ F1 s1 _ _ Y.out.1 Y.out.2.2.2 (by omega)).mono ?_
    rintro e w2 ⟨rfl, h2, ok2⟩
    obtain ⟨F2, a2, o2, f2⟩ := Moved.step Y.out.2.1 Y.out.2.2.1 h2
    have Z := hid (And.intro a2 (And.intro o2 (And.intro f2 ok2)))
    clear a2 o2 f2 ok2 h2
    generalize hdn : (M.flat s1 (decide (vv < 0))).1 = dn at *
    have DN := hid hdn
    clear hdn
    generalize hs2 : (M.flat s1 (decide (vv < 0))).2 = s2 at *
    have HS2 := hid hs2
    clear hs2
    have hmx : 0 ≤ max vv (-vv) ∧ max vv (-vv) ≤ 15 := by omega
    go_wp2_with fail
    generalize hkk : max vv (-vv) - 1 = kk at *
    have KK := hid hkk
    clear hkk hmx
    go_loopg [7] 14 (fun j i wr => OnesRel M At Ok partCtx kk 14 (lim + 6) (M.ones partCtx kk 14 0 s2) w F j i wr)
    case atStart => exact ⟨0, s2, rfl, rfl, ⟨F2, Z.out.1, Z.out.2.1, Z.out.2.2.1⟩, Z.out.2.2.2, rfl⟩
    case round =>
      obtain ⟨n, s', hn, rfl, hmv, ho, hfin⟩ := hrel
      have X := hid (And.intro hmv (And.intro ho hfin))
      clear hmv ho hfin
      by_cases h3 : n < 14
      · obtain ⟨j, rfl⟩ : ∃ j, gk = j + 1 := ⟨gk - 1, by omega⟩
        obtain ⟨F3, a3, o3, f3⟩ := X.out.1
        have Y3 := hid (And.intro a3 (And.intro o3 f3))
        clear a3 o3 f3
        go_wp2_with fail
        refine (H.bitN _ F3 s' (partCtx n) _ (by unfold partCtx; omega) (partCtx_lt n) _ _ Y3.out.1 X.out.2.1 (by omega)).mono ?_
        rintro e w3 ⟨rfl, h3, ok3⟩
        have Z3 := hid (And.intro (Moved.step Y3.out.2.1 Y3.out.2.2 h3) ok3)
        clear h3 hm hcb hm2 hcb2 ok3
        cases hq3 : (M.bit s' (partCtx n) (decide ((n : Int) < kk))).1 with
        | true =>
          have Q3 := hid hq3
          clear hq3
          go_wp2_with fail
          obtain ⟨z1, z2⟩ := Z3.out
          go_roundg j
          case measure => omega
          case rel => exact ⟨n + 1, _, by omega, by go_num, z1, by rw [show lim + 6 + 3 * (n + 1) = lim + 6 + 3 * n + 3 by omega]; exact z2, by rw [← X.out.2.2, ones_yes (f := partCtx) Q3.out]⟩
        | false =>
          have Q3 := hid hq3
          clear hq3
          have e : M.ones partCtx kk 14 0 s2 = (n, (M.bit s' (partCtx n) (decide ((n : Int) < kk))).2) := by
            rw [← X.out.2.2, ones_no (f := partCtx) Q3.out]
          have EE := hid e
          clear e
          cases dn with
          | true =>
            go_wp2_with fail
            go_ret
            rw [PD.out, Q.out, EE.out]
            simp only [if_true]
            exact ⟨rfl, Z3.out.1⟩
          | false =>
            go_wp2_with fail
            go_ret
            rw [PD.out, Q.out, EE.out]
            simp only [if_true, Bool.false_eq_true, if_false]
            exact ⟨rfl, Z3.out.1⟩
      · obtain rfl : n = 14 := by omega
        obtain rfl : gk = 0 := by omega
        have e : M.ones partCtx kk 14 0 s2 = (14, s') := by
          rw [← X.out.2.2]; rfl
        have EE := hid e
        clear e
        cases dn with
        | true =>
          go_wp2_with fail
          go_ret
          rw [PD.out, Q.out, EE.out]
          simp only [if_true]
          exact ⟨rfl, X.out.1⟩
        | false =>
          go_wp2_with fail
          go_ret
          rw [PD.out, Q.out, EE.out]
          simp only [if_true, Bool.false_eq_true, if_false]
          exact ⟨rfl, X.out.1⟩

end
end Go.Proofs.YtkkgpdejmcpcpaaGreatDoor

