/- Parts: XSqP, XSqM. -/
import Derived.Test.YtkkgpdejmcpcpaaGreatDoorM22
/- Chapter 20, plain: a square, asked bit by bit. -/
namespace Go.Proofs.YtkkgpdejmcpcpaaGreatDoor
open Go.RowKit
variable {σ τ : Type}

structure SqS where
  kind : Int
  mode : Int
  modes : List Int
  x : Int
  y : Int
  large : List Int
  small : List (List Int)
/-- A square of a kind, and no more. -/
def bareS (k : Int) : SqS := ⟨k, 0, [0, 0, 0, 0], 0, 0, [], [[], [], [], []]⟩
def kindA (v : Int) : Ask Int := (onesA (fun n => n) v 3 0).bind fun n => .ret (n : Int)
def modeA (m : Int) : Ask Int := .bit 3 (decide (1 < cut m 0 3)) fun a => .bit (if a then 5 else 4) (decide (cut m 0 3 % 2 = 1)) fun b => .ret ((if a then 2 else 0) + (if b then 1 else 0))
def partA (v : Int) : Ask Int := .bit 6 (decide (cut v (-15) 15 ≠ 0)) fun a => if a then .flat (decide (cut v (-15) 15 < 0)) fun d => (onesA partCtx (max (cut v (-15) 15) (-(cut v (-15) 15)) - 1) 14 0).bind fun n => .ret (if d then -(n : Int) - 1 else (n : Int) + 1) else .ret 0
theorem run_ones (M : Mach σ) (f : Nat → Nat) (v : Int) : ∀ k n s, M.run (onesA f v k n) s = M.ones f v k n s
  | 0, n, s => rfl
  | k + 1, n, s => by
    rw [onesA, run_bit, Mach.ones]
    cases h : (M.bit s (f n) (decide ((n : Int) < v))).1
    · simp only [Bool.false_eq_true, if_false]; rfl
    · simp only [if_true]; exact run_ones M f v k (n + 1) _
theorem run_kind (M : Mach σ) (v : Int) (s : σ) : M.run (kindA v) s = M.kind v s := by
  unfold kindA
  rw [run_bind, run_ones]
  rfl
theorem run_mode (M : Mach σ) (m : Int) (s : σ) : M.run (modeA m) s = M.mode m s := rfl
theorem run_part (M : Mach σ) (v : Int) (s : σ) : M.run (partA v) s = M.part v s := by
  rw [part_def]
  unfold partA
  rw [run_bit]
  cases h : (M.bit s 6 (decide (cut v (-15) 15 ≠ 0))).1
  · simp only [Bool.false_eq_true, if_false]; rfl
  · simp only [if_true]
    rw [run_flat, run_bind, run_ones]
    rfl
abbrev R20 := Option Nat × SqS
abbrev SqF := Nat → List Nat → List Int → Ask SqR
def smallsG (sq : SqF) : List (Int × List Int) → List Int → List (List Int) → Ask (Option Nat × List Int × List (List Int))
  | [], ms, ls => .ret (none, ms, ls)
  | (m, l) :: r, ms, ls => (modeA m).bind fun m' => (sq 14 (ordOf 4) l).bind fun q => match q.1 with
    | some i => .ret (some i, ms ++ [m'], ls)
    | none => smallsG sq r (ms ++ [m']) (ls ++ [q.2])
def largeG (sq : SqF) (l : List Int) : Ask SqR := sq 39 (ordOf 8) l
def restG (sq : SqF) (k : Int) (s : SqS) : Ask R20 :=
  if k = 3 then (smallsG sq (s.modes.zip s.small) [] []).bind fun r => .ret (r.1, { bareS 3 with modes := r.2.1, small := r.2.2 })
  else if k = 0 then .ret (none, bareS 0)
  else if k = 1 then (partA s.x).bind fun x => (partA s.y).bind fun y => (largeG sq s.large).bind fun q => .ret (q.1, { bareS 1 with x := x, y := y, large := q.2 })
  else (modeA s.mode).bind fun m => (largeG sq s.large).bind fun q => .ret (q.1, { bareS k with mode := m, large := q.2 })
def headA (key : Bool) (k : Int) : Ask Int := if key then .flat (decide (k = 3)) fun b => .ret (if b then 3 else 2) else kindA k
def codeG (sq : SqF) (key : Bool) (s : SqS) : Ask R20 := (headA key s.kind).bind fun k => restG sq k s
/-- The program's; the document's. -/
abbrev smallsA := smallsG squareA
abbrev largeA := largeG squareA
abbrev restA := restG squareA
abbrev codeA := codeG squareA

/-! ### Contexts, how many -/
theorem ctx_kind (v : Int) : (kindA v).Ctx := by
  have h : ∀ k n, n + k ≤ 3 → (onesA (fun n => n) v k n).Ctx := by
    intro k
    induction k with
    | zero => intro n _; trivial
    | succ k ih =>
      intro n hn
      refine ⟨by show n < 64; omega, fun b => ?_⟩
      cases b
      · trivial
      · exact ih (n + 1) (by omega)
  exact Ctx.bind (h 3 0 (by omega)) fun _ => trivial
theorem ctx_mode (v : Int) : (modeA v).Ctx := ⟨by omega, fun a => ⟨by cases a <;> decide, fun _ => trivial⟩⟩
theorem ctx_part (v : Int) : (partA v).Ctx := ⟨by omega, fun a => by
  cases a
  · trivial
  · exact fun d => Ctx.bind (ctx_ones _ partCtx_lt _ _ _) fun _ => trivial⟩
theorem ctx_smalls : ∀ (r : List (Int × List Int)) (ms : List Int) (ls : List (List Int)), (smallsA r ms ls).Ctx
  | [], ms, ls => trivial
  | (m, l) :: r, ms, ls => Ctx.bind (ctx_mode m) fun m' => Ctx.bind (ctx_square 14 (by omega) _ l) fun q => by
    rcases q with ⟨o, q⟩
    cases o with
    | some i => trivial
    | none => exact ctx_smalls r _ _
theorem ctx_large (l : List Int) : (largeA l).Ctx := ctx_square 39 (by omega) _ l
theorem ctx_rest (k : Int) (s : SqS) : (restA k s).Ctx := by
  unfold restA restG
  split
  · exact Ctx.bind (ctx_smalls _ _ _) fun _ => trivial
  · split
    · trivial
    · split
      · exact Ctx.bind (ctx_part _) fun _ => Ctx.bind (ctx_part _) fun _ => Ctx.bind (ctx_large _) fun _ => trivial
      · exact Ctx.bind (ctx_mode _) fun _ => Ctx.bind (ctx_large _) fun _ => trivial
theorem ctx_head (key : Bool) (k : Int) : (headA key k).Ctx := by
  cases key
  · exact ctx_kind k
  · exact fun _ => trivial
theorem ctx_code (key : Bool) (s : SqS) : (codeA key s).Ctx := Ctx.bind (ctx_head _ _) fun _ => ctx_rest _ _
theorem most_kind (v : Int) : (kindA v).Most 3 := Most.bind (n := 3) (m := 0) (most_ones _ _ _ _) fun _ => trivial
theorem most_mode (v : Int) : (modeA v).Most 2 := fun _ _ => trivial
theorem most_part (v : Int) : (partA v).Most 16 := fun a => by
  cases a
  · trivial
  · exact fun d => Most.bind (n := 14) (m := 0) (most_ones _ _ _ _) fun _ => trivial
theorem ord_len4 : (ordOf 4).length = 16 := ord4_ok.len
theorem ord_len8 : (ordOf 8).length = 64 := ord8_ok.len
theorem most_small (l : List Int) : (squareA 14 (ordOf 4) l).Most 700 := (most_square 14 (ordOf 4) l).mono (by rw [ord_len4]; omega)
theorem most_large (l : List Int) : (largeA l).Most 2800 := (most_square 39 (ordOf 8) l).mono (by rw [ord_len8]; omega)
theorem most_smalls : ∀ (r : List (Int × List Int)) (ms : List Int) (ls : List (List Int)), (smallsA r ms ls).Most (702 * r.length)
  | [], ms, ls => trivial
  | (m, l) :: r, ms, ls => by
    have h : (smallsA ((m, l) :: r) ms ls).Most (2 + (700 + 702 * r.length)) := Most.bind (most_mode m) fun m' => Most.bind (most_small l) fun q => by
      rcases q with ⟨o, q⟩
      cases o with
      | some i => trivial
      | none => exact most_smalls r _ _
    exact h.mono (by simp only [List.length_cons]; omega)
theorem most_ret {α : Type} (a : α) (n : Nat) : (Ask.ret a).Most n := by cases n <;> trivial
theorem most_rest (k : Int) (s : SqS) (h4 : s.modes.length ≤ 4) : (restA k s).Most 2850 := by
  unfold restA restG
  split
  · refine Ask.Most.mono (n := 702 * (s.modes.zip s.small).length + 0) (Most.bind (most_smalls _ _ _) fun _ => most_ret _ _) ?_
    rw [List.length_zip]
    omega
  · split
    · exact most_ret _ _
    · split
      · exact Ask.Most.mono (n := 16 + (16 + (2800 + 0))) (Most.bind (most_part _) fun _ => Most.bind (most_part _) fun _ => Most.bind (most_large _) fun _ => most_ret _ _) (by omega)
      · exact Ask.Most.mono (n := 2 + (2800 + 0)) (Most.bind (most_mode _) fun _ => Most.bind (most_large _) fun _ => most_ret _ _) (by omega)
theorem most_head (key : Bool) (k : Int) : (headA key k).Most 3 := by
  cases key
  · exact most_kind k
  · exact fun _ => trivial
theorem most_code (key : Bool) (s : SqS) (h4 : s.modes.length ≤ 4) : (codeA key s).Most 2853 := (Most.bind (most_head _ _) fun _ => most_rest _ _ h4).mono (by omega)
/-! ### What is told -/
theorem all_kind (v : Int) : (kindA v).All fun k => k = 0 ∨ k = 1 ∨ k = 2 ∨ k = 3 := by
  intro a
  cases a
  · exact .inl rfl
  · intro b
    cases b
    · exact .inr (.inl rfl)
    · intro c
      cases c
      · exact .inr (.inr (.inl rfl))
      · exact .inr (.inr (.inr rfl))
theorem Ask.All.mono {α : Type} {P Q : α → Prop} {p : Ask α} (h : p.All P) (hq : ∀ a, P a → Q a) : p.All Q := by
  induction p with
  | ret a => exact hq a h
  | bit c u k ih => exact fun b => ih b (h b)
  | flat u k ih => exact fun b => ih b (h b)
theorem all_head (key : Bool) (v : Int) : (headA key v).All fun k => (k = 0 ∨ k = 1 ∨ k = 2 ∨ k = 3) ∧ (key = true → 2 ≤ k) := by
  cases key
  · have h := all_kind v
    exact h.mono fun k hk => ⟨hk, fun e => by simp at e⟩
  · intro b
    cases b
    · exact ⟨.inr (.inr (.inl rfl)), fun _ => by show (2 : Int) ≤ 2; omega⟩
    · exact ⟨.inr (.inr (.inr rfl)), fun _ => by show (2 : Int) ≤ 3; omega⟩
/-! ### Whatever a reader is handed -/
theorem shape_kind (v v' : Int) : (kindA v).Shape (kindA v') := Shape.bind (shape_ones _ _ _ _ _) fun _ => Shape.refl _
theorem shape_mode (v v' : Int) : (modeA v).Shape (modeA v') := ⟨rfl, fun _ => ⟨rfl, fun _ => rfl⟩⟩
theorem shape_part (v v' : Int) : (partA v).Shape (partA v') := ⟨rfl, fun a => by
  cases a
  · exact rfl
  · exact fun d => Shape.bind (shape_ones _ _ _ _ _) fun _ => Shape.refl _⟩
/-- Two squares of the same lengths. -/
def SmLike : List (Int × List Int) → List (Int × List Int) → Prop
  | [], [] => True
  | (_, l) :: r, (_, l') :: r' => l.length = l'.length ∧ SmLike r r'
  | _, _ => False
theorem shape_smalls : ∀ (r r' : List (Int × List Int)) (ms : List Int) (ls : List (List Int)), SmLike r r' → (smallsA r ms ls).Shape (smallsA r' ms ls)
  | [], [], ms, ls, _ => rfl
  | (m, l) :: r, (m', l') :: r', ms, ls, h => Shape.bind (shape_mode _ _) fun _ => Shape.bind (shape_square _ _ _ _ h.1) fun q => by
    rcases q with ⟨o, q⟩
    cases o with
    | some i => exact rfl
    | none => exact shape_smalls r r' _ _ h.2
  | [], _ :: _, _, _, h => h.elim
  | _ :: _, [], _, _, h => h.elim
theorem shape_rest (k : Int) (s s' : SqS) (h3 : k = 3 → SmLike (s.modes.zip s.small) (s'.modes.zip s'.small)) (hl : k = 1 ∨ k = 2 → s.large.length = s'.large.length) (hk : k = 0 ∨ k = 1 ∨ k = 2 ∨ k = 3) : (restA k s).Shape (restA k s') := by
  unfold restA restG
  split
  · rename_i e
    exact Shape.bind (shape_smalls _ _ _ _ (h3 e)) fun _ => Shape.refl _
  · split
    · exact Shape.refl _
    · split
      · rename_i e
        exact Shape.bind (shape_part _ _) fun _ => Shape.bind (shape_part _ _) fun _ => Shape.bind (shape_square _ _ _ _ (hl (.inl e))) fun _ => Shape.refl _
      · exact Shape.bind (shape_mode _ _) fun _ => Shape.bind (shape_square _ _ _ _ (hl (by omega))) fun _ => Shape.refl _
end Go.Proofs.YtkkgpdejmcpcpaaGreatDoor

/- Chapter 20: a square in memory, and a coder beside it. -/
namespace Go.Proofs.YtkkgpdejmcpcpaaGreatDoor
open Go.RowKit

abbrev nilS : Value := .slice none 0 0
/-- A block that holds a square: its modes and its small lists as far as they are told. -/
def SqBlk (W : World) (ob : Nat) (ty : TypeId) (k mode : Int) (ms : List Int) (x y : Int) (lv : Value) (vs : List Value) : Prop :=
  ∃ cs, Blk W ob ty cs ∧ cs.size = 13 ∧ cs[0]? = some (.int .i64 k) ∧ cs[1]? = some (.int .i64 mode) ∧ (∀ j, j < 4 → cs[2 + j]? = some (.int .i64 (ms.getD j 0))) ∧ cs[6]? = some (.int .i64 x) ∧ cs[7]? = some (.int .i64 y) ∧ cs[8]? = some lv ∧ ∀ j, j < 4 → cs[9 + j]? = some (vs.getD j nilS)
section
variable {W W' : World} {ob : Nat} {ty : TypeId} {k mode x y : Int} {ms : List Int} {lv : Value} {vs : List Value}
theorem SqBlk.of {cs : Array Value} {m0 m1 m2 m3 : Int} {v0 v1 v2 v3 : Value} (h : Blk W ob ty cs) (hc : cs = #[.int .i64 k, .int .i64 mode, .int .i64 m0, .int .i64 m1, .int .i64 m2, .int .i64 m3, .int .i64 x, .int .i64 y, lv, v0, v1, v2, v3]) : SqBlk W ob ty k mode [m0, m1, m2, m3] x y lv [v0, v1, v2, v3] := by
  subst hc
  refine ⟨_, h, rfl, rfl, rfl, fun j hj => ?_, rfl, rfl, rfl, fun j hj => ?_⟩
  · match j, hj with
    | 0, _ => rfl
    | 1, _ => rfl
    | 2, _ => rfl
    | 3, _ => rfl
  · match j, hj with
    | 0, _ => rfl
    | 1, _ => rfl
    | 2, _ => rfl
    | 3, _ => rfl
theorem SqBlk.new {cs : Array Value} (h : Blk W ob ty cs) (hc : cs = #[.int .i64 0, .int .i64 0, .int .i64 0, .int .i64 0, .int .i64 0, .int .i64 0, .int .i64 0, .int .i64 0, nilS, nilS, nilS, nilS, nilS]) : SqBlk W ob ty 0 0 [] 0 0 nilS [] := by
  subst hc
  refine ⟨_, h, rfl, rfl, rfl, fun j hj => ?_, rfl, rfl, rfl, fun j hj => ?_⟩
  · match j, hj with
    | 0, _ => rfl
    | 1, _ => rfl
    | 2, _ => rfl
    | 3, _ => rfl
  · match j, hj with
    | 0, _ => rfl
    | 1, _ => rfl
    | 2, _ => rfl
    | 3, _ => rfl
theorem SqBlk.lt (h : SqBlk W ob ty k mode ms x y lv vs) : ob < W.heap.size := by obtain ⟨cs, hb, _⟩ := h; exact hb.lt
theorem SqBlk.frozen (h : SqBlk W ob ty k mode ms x y lv vs) (i : Nat) : W.frozen? ⟨ob, i, none⟩ = false := by obtain ⟨cs, hb, _⟩ := h; exact hb.frozen i
theorem SqBlk.c0 (h : SqBlk W ob ty k mode ms x y lv vs) : W.cell? ⟨ob, 0, none⟩ = some (.int .i64 k) := by obtain ⟨cs, hb, _, h0, _⟩ := h; exact (hb.cell 0).trans h0
theorem SqBlk.c1 (h : SqBlk W ob ty k mode ms x y lv vs) : W.cell? ⟨ob, 1, none⟩ = some (.int .i64 mode) := by obtain ⟨cs, hb, _, _, h1, _⟩ := h; exact (hb.cell 1).trans h1
theorem SqBlk.cm (h : SqBlk W ob ty k mode ms x y lv vs) (j : Nat) (hj : j < 4) : W.cell? ⟨ob, 2 + j, none⟩ = some (.int .i64 (ms.getD j 0)) := by obtain ⟨cs, hb, _, _, _, hm, _⟩ := h; exact (hb.cell _).trans (hm j hj)
theorem SqBlk.c6 (h : SqBlk W ob ty k mode ms x y lv vs) : W.cell? ⟨ob, 6, none⟩ = some (.int .i64 x) := by obtain ⟨cs, hb, _, _, _, _, hx, _⟩ := h; exact (hb.cell _).trans hx
theorem SqBlk.c7 (h : SqBlk W ob ty k mode ms x y lv vs) : W.cell? ⟨ob, 7, none⟩ = some (.int .i64 y) := by obtain ⟨cs, hb, _, _, _, _, _, hy, _⟩ := h; exact (hb.cell _).trans hy
theorem SqBlk.c8 (h : SqBlk W ob ty k mode ms x y lv vs) : W.cell? ⟨ob, 8, none⟩ = some lv := by obtain ⟨cs, hb, _, _, _, _, _, _, hl, _⟩ := h; exact (hb.cell _).trans hl
theorem SqBlk.cs (h : SqBlk W ob ty k mode ms x y lv vs) (j : Nat) (hj : j < 4) : W.cell? ⟨ob, 9 + j, none⟩ = some (vs.getD j nilS) := by obtain ⟨cs, hb, _, _, _, _, _, _, _, hv⟩ := h; exact (hb.cell _).trans (hv j hj)
theorem SqBlk.keep {S : Nat → Prop} (h : SqBlk W ob ty k mode ms x y lv vs) (o : Only S W W') (hS : ¬ S ob) : SqBlk W' ob ty k mode ms x y lv vs := by
  obtain ⟨cs, hb, hr⟩ := h
  exact ⟨cs, hb.keep o hS, hr⟩
theorem SqBlk.below (h : SqBlk W ob ty k mode ms x y lv vs) (hb : Below W.heap.size W W') : SqBlk W' ob ty k mode ms x y lv vs := h.keep (S := fun _ => False) (Only.of_below hb) (fun h => h)
theorem SqBlk.far (h : SqBlk W ob ty k mode ms x y lv vs) {p : Addr} (hp : ob ≠ p.block) (u : Value) : SqBlk (W.setCell p u) ob ty k mode ms x y lv vs := by
  obtain ⟨cs, hb, hr⟩ := h
  exact ⟨cs, hb.far hp u, hr⟩
theorem SqBlk.put0 (h : SqBlk W ob ty k mode ms x y lv vs) (z : Int) : SqBlk (W.setCell ⟨ob, 0, none⟩ (.int .i64 z)) ob ty z mode ms x y lv vs := by
  obtain ⟨cs, hb, hs, h0, h1, hm, hx, hy, hl, hv⟩ := h
  exact ⟨_, hb.put 0 _, by rw [Array.size_setIfInBounds]; exact hs, Array.getElem?_setIfInBounds_self_of_lt (by omega), by rw [Array.getElem?_setIfInBounds_ne (by omega)]; exact h1, fun j hj => by rw [Array.getElem?_setIfInBounds_ne (by omega)]; exact hm j hj, by rw [Array.getElem?_setIfInBounds_ne (by omega)]; exact hx, by rw [Array.getElem?_setIfInBounds_ne (by omega)]; exact hy, by rw [Array.getElem?_setIfInBounds_ne (by omega)]; exact hl, fun j hj => by rw [Array.getElem?_setIfInBounds_ne (by omega)]; exact hv j hj⟩
theorem SqBlk.put1 (h : SqBlk W ob ty k mode ms x y lv vs) (z : Int) : SqBlk (W.setCell ⟨ob, 1, none⟩ (.int .i64 z)) ob ty k z ms x y lv vs := by
  obtain ⟨cs, hb, hs, h0, h1, hm, hx, hy, hl, hv⟩ := h
  exact ⟨_, hb.put 1 _, by rw [Array.size_setIfInBounds]; exact hs, by rw [Array.getElem?_setIfInBounds_ne (by omega)]; exact h0, Array.getElem?_setIfInBounds_self_of_lt (by omega), fun j hj => by rw [Array.getElem?_setIfInBounds_ne (by omega)]; exact hm j hj, by rw [Array.getElem?_setIfInBounds_ne (by omega)]; exact hx, by rw [Array.getElem?_setIfInBounds_ne (by omega)]; exact hy, by rw [Array.getElem?_setIfInBounds_ne (by omega)]; exact hl, fun j hj => by rw [Array.getElem?_setIfInBounds_ne (by omega)]; exact hv j hj⟩
theorem SqBlk.put6 (h : SqBlk W ob ty k mode ms x y lv vs) (z : Int) : SqBlk (W.setCell ⟨ob, 6, none⟩ (.int .i64 z)) ob ty k mode ms z y lv vs := by
  obtain ⟨cs, hb, hs, h0, h1, hm, hx, hy, hl, hv⟩ := h
  exact ⟨_, hb.put 6 _, by rw [Array.size_setIfInBounds]; exact hs, by rw [Array.getElem?_setIfInBounds_ne (by omega)]; exact h0, by rw [Array.getElem?_setIfInBounds_ne (by omega)]; exact h1, fun j hj => by rw [Array.getElem?_setIfInBounds_ne (by omega)]; exact hm j hj, Array.getElem?_setIfInBounds_self_of_lt (by omega), by rw [Array.getElem?_setIfInBounds_ne (by omega)]; exact hy, by rw [Array.getElem?_setIfInBounds_ne (by omega)]; exact hl, fun j hj => by rw [Array.getElem?_setIfInBounds_ne (by omega)]; exact hv j hj⟩
theorem SqBlk.put7 (h : SqBlk W ob ty k mode ms x y lv vs) (z : Int) : SqBlk (W.setCell ⟨ob, 7, none⟩ (.int .i64 z)) ob ty k mode ms x z lv vs := by
  obtain ⟨cs, hb, hs, h0, h1, hm, hx, hy, hl, hv⟩ := h
  exact ⟨_, hb.put 7 _, by rw [Array.size_setIfInBounds]; exact hs, by rw [Array.getElem?_setIfInBounds_ne (by omega)]; exact h0, by rw [Array.getElem?_setIfInBounds_ne (by omega)]; exact h1, fun j hj => by rw [Array.getElem?_setIfInBounds_ne (by omega)]; exact hm j hj, by rw [Array.getElem?_setIfInBounds_ne (by omega)]; exact hx, Array.getElem?_setIfInBounds_self_of_lt (by omega), by rw [Array.getElem?_setIfInBounds_ne (by omega)]; exact hl, fun j hj => by rw [Array.getElem?_setIfInBounds_ne (by omega)]; exact hv j hj⟩
theorem SqBlk.put8 (h : SqBlk W ob ty k mode ms x y lv vs) (z : Value) : SqBlk (W.setCell ⟨ob, 8, none⟩ z) ob ty k mode ms x y z vs := by
  obtain ⟨cs, hb, hs, h0, h1, hm, hx, hy, hl, hv⟩ := h
  exact ⟨_, hb.put 8 _, by rw [Array.size_setIfInBounds]; exact hs, by rw [Array.getElem?_setIfInBounds_ne (by omega)]; exact h0, by rw [Array.getElem?_setIfInBounds_ne (by omega)]; exact h1, fun j hj => by rw [Array.getElem?_setIfInBounds_ne (by omega)]; exact hm j hj, by rw [Array.getElem?_setIfInBounds_ne (by omega)]; exact hx, by rw [Array.getElem?_setIfInBounds_ne (by omega)]; exact hy, Array.getElem?_setIfInBounds_self_of_lt (by omega), fun j hj => by rw [Array.getElem?_setIfInBounds_ne (by omega)]; exact hv j hj⟩
theorem getD_snoc {α : Type} (l : List α) (a d : α) (j : Nat) : (l ++ [a]).getD j d = if j = l.length then a else l.getD j d := by
  rw [List.getD_eq_getElem?_getD, List.getD_eq_getElem?_getD]
  by_cases h : j < l.length
  · rw [List.getElem?_append_left h, if_neg (by omega)]
  · rw [List.getElem?_append_right (by omega)]
    by_cases e : j = l.length
    · subst e; simp
    · rw [if_neg e, List.getElem?_eq_none (l := [a]) (by simp; omega), List.getElem?_eq_none (l := l) (by omega)]
theorem SqBlk.putM (h : SqBlk W ob ty k mode ms x y lv vs) (i : Nat) (hi : i = ms.length) (h4 : i < 4) (z : Int) : SqBlk (W.setCell ⟨ob, 2 + i, none⟩ (.int .i64 z)) ob ty k mode (ms ++ [z]) x y lv vs := by
  obtain ⟨cs, hb, hs, h0, h1, hm, hx, hy, hl, hv⟩ := h
  refine ⟨_, hb.put (2 + i) _, by rw [Array.size_setIfInBounds]; exact hs, by rw [Array.getElem?_setIfInBounds_ne (by omega)]; exact h0, by rw [Array.getElem?_setIfInBounds_ne (by omega)]; exact h1, fun j hj => ?_, by rw [Array.getElem?_setIfInBounds_ne (by omega)]; exact hx, by rw [Array.getElem?_setIfInBounds_ne (by omega)]; exact hy, by rw [Array.getElem?_setIfInBounds_ne (by omega)]; exact hl, fun j hj => by rw [Array.getElem?_setIfInBounds_ne (by omega)]; exact hv j hj⟩
  rw [getD_snoc]
  by_cases e : j = ms.length
  · rw [if_pos e, show 2 + i = 2 + j by omega]
    exact Array.getElem?_setIfInBounds_self_of_lt (by omega)
  · rw [if_neg e, Array.getElem?_setIfInBounds_ne (by omega)]
    exact hm j hj
theorem SqBlk.putS (h : SqBlk W ob ty k mode ms x y lv vs) (i : Nat) (hi : i = vs.length) (h4 : i < 4) (z : Value) : SqBlk (W.setCell ⟨ob, 9 + i, none⟩ z) ob ty k mode ms x y lv (vs ++ [z]) := by
  obtain ⟨cs, hb, hs, h0, h1, hm, hx, hy, hl, hv⟩ := h
  refine ⟨_, hb.put (9 + i) _, by rw [Array.size_setIfInBounds]; exact hs, by rw [Array.getElem?_setIfInBounds_ne (by omega)]; exact h0, by rw [Array.getElem?_setIfInBounds_ne (by omega)]; exact h1, fun j hj => by rw [Array.getElem?_setIfInBounds_ne (by omega)]; exact hm j hj, by rw [Array.getElem?_setIfInBounds_ne (by omega)]; exact hx, by rw [Array.getElem?_setIfInBounds_ne (by omega)]; exact hy, by rw [Array.getElem?_setIfInBounds_ne (by omega)]; exact hl, fun j hj => ?_⟩
  rw [getD_snoc]
  by_cases e : j = vs.length
  · rw [if_pos e, show 9 + i = 9 + j by omega]
    exact Array.getElem?_setIfInBounds_self_of_lt (by omega)
  · rw [if_neg e, Array.getElem?_setIfInBounds_ne (by omega)]
    exact hv j hj
end
section
variable {σ : Type} {M : Mach σ} {fB fF : FuncId} {me : Value} {At : World → (Nat → Prop) → σ → Prop} {Ok : σ → Nat → Prop} {w0 W W' : World} {s s' : σ} {F0 F F' : Nat → Prop} {ob : Nat} {x : Value} {l : List Int}
theorem CW.of_moved (h : Moved At W F s' W') : ∃ F', CW At W F s' W' F' := by
  obtain ⟨F', a, o, f⟩ := h
  exact ⟨F', a, o, f⟩
/-- A coder, and a block of the call's. -/
structure PW (At : World → (Nat → Prop) → σ → Prop) (w0 : World) (F0 : Nat → Prop) (ob : Nat) (s : σ) (W : World) (F : Nat → Prop) : Prop where
  a : At W F s
  o : Only (fun j => F0 j ∨ j = ob) w0 W
  f : ∀ k, F k → F0 k ∨ w0.heap.size ≤ k
  n : ¬ F ob
  b : ob < w0.heap.size
theorem PW.start (h : At w0 F0 s) (hn : ¬ F0 ob) (hb : ob < w0.heap.size) : PW At w0 F0 ob s w0 F0 := ⟨h, Only.refl _ _, fun _ h => .inl h, hn, hb⟩
theorem PW.code (h : PW At w0 F0 ob s W F) (c : CW At W F s' W' F') : PW At w0 F0 ob s' W' F' := by
  have hs := h.o.size
  have hb := h.b
  refine ⟨c.a, ⟨c.o.os.trans h.o.os, c.o.tape.trans h.o.tape, c.o.output.trans h.o.output, Nat.le_trans hs c.o.size, fun k hk hn => ?_⟩, fun k hk => ?_, fun hF => ?_, h.b⟩
  · rw [← h.o.block k hk hn]
    refine c.o.block k (by omega) (fun hF => ?_)
    rcases h.f k hF with e | e
    · exact hn (.inl e)
    · omega
  · rcases c.f k hk with e | e
    · exact h.f k e
    · exact .inr (by omega)
  · rcases c.f ob hF with e | e
    · exact h.n e
    · omega
theorem PW.only {S : Nat → Prop} (H : IsCoder M fB fF me At Ok) (h : PW At w0 F0 ob s W F) (o : Only S W W') (hF : ∀ k, F k → ¬ S k) (hS : ∀ k, S k → k < w0.heap.size → k = ob) : PW At w0 F0 ob s W' F :=
  ⟨H.keep _ _ _ _ _ h.a o hF, ⟨o.os.trans h.o.os, o.tape.trans h.o.tape, o.output.trans h.o.output, Nat.le_trans h.o.size o.size, fun k hk hn => by
    rw [← h.o.block k hk hn]
    exact o.block k (by have := h.o.size; omega) (fun e => hn (.inr (hS k e hk)))⟩, h.f, h.n, h.b⟩
theorem PW.put (H : IsCoder M fB fF me At Ok) (h : PW At w0 F0 ob s W F) (i : Nat) (v : Value) : PW At w0 F0 ob s (W.setCell ⟨ob, i, none⟩ v) F :=
  h.only H (S := fun k => k = ob) (Only.put (S := fun k => k = ob) (Only.refl _ _) rfl i v) (fun k hk e => h.n (by rw [← e]; exact hk)) (fun k e _ => e)
theorem PW.below (H : IsCoder M fB fF me At Ok) (h : PW At w0 F0 ob s W F) (hb : Below W.heap.size W W') : PW At w0 F0 ob s W' F :=
  h.only H (S := fun _ => False) (Only.of_below hb) (fun _ _ e => e) (fun _ e => e.elim)
/-- A list away from the coder and from the block. -/
structure LOff (x : Value) (l : List Int) (W : World) (F : Nat → Prop) (ob : Nat) : Prop where
  n : NOff x l W F
  o : ∀ k, x.ownBlock = some k → k ≠ ob
theorem LOff.code (h : LOff x l W F ob) (c : CW At W F s' W' F') : LOff x l W' F' ob := ⟨h.n.moved c.o c.f, h.o⟩
theorem LOff.put (h : LOff x l W F ob) (i : Nat) (v : Value) : LOff x l (W.setCell ⟨ob, i, none⟩ v) F ob := ⟨h.n.put h.o i v, h.o⟩
theorem LOff.below (h : LOff x l W F ob) (hb : Below W.heap.size W W') : LOff x l W' F ob := ⟨h.n.below hb, h.o⟩
theorem LOff.nil (W : World) (F : Nat → Prop) (ob : Nat) : LOff nilS [] W F ob :=
  ⟨⟨⟨none, 0, rfl, Nat.le_refl _, fun h => absurd rfl h⟩, fun k hk => by simp [Value.ownBlock] at hk, fun k hk => by simp [Value.ownBlock] at hk⟩, fun k hk => by simp [Value.ownBlock] at hk⟩
theorem LOff.of_blk {g n : Nat} (h : BOff w0 g l W F) (hob : ob < w0.heap.size) (hn : l.length = n) : LOff (.slice (some ⟨g, 0, none⟩) n n) l W F ob := by
  refine ⟨noff_new h.b rfl hn h.f, fun k hk => ?_⟩
  have e : g = k := by simpa [Value.ownBlock] using hk
  have := h.lo
  omega
end
end Go.Proofs.YtkkgpdejmcpcpaaGreatDoor

