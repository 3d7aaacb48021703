/- Parts: XCoefP. -/
import Derived.Test.YtkkgpdejmcpcpaaGreatDoorM07
import Derived.Test.YtkkgpdejmcpcpaaGreatDoorM04
/- Plain: what is asked of a coder, as a tree of its answers; chapter 14's squares of levels. -/
/- Plain: what is asked of a coder, as a tree of its answers: one law for each kind of machine. -/
namespace Go.Proofs.YtkkgpdejmcpcpaaGreatDoor

/-- Bits that are asked one behind the other. -/
inductive Ask (α : Type) where
  | ret (a : α) : Ask α
  | bit (c : Nat) (u : Bool) (k : Bool → Ask α) : Ask α
  | flat (u : Bool) (k : Bool → Ask α) : Ask α
variable {α β γ σ τ : Type}
def Ask.bind : Ask α → (α → Ask β) → Ask β
  | .ret a, f => f a
  | .bit c u k, f => .bit c u fun b => (k b).bind f
  | .flat u k, f => .flat u fun b => (k b).bind f
def Mach.run (M : Mach σ) : Ask α → σ → α × σ
  | .ret a, s => (a, s)
  | .bit c u k, s => M.run (k (M.bit s c u).1) (M.bit s c u).2
  | .flat u k, s => M.run (k (M.flat s u).1) (M.flat s u).2
theorem run_ret (M : Mach σ) (a : α) (s : σ) : M.run (.ret a) s = (a, s) := rfl
theorem run_bit (M : Mach σ) (c : Nat) (u : Bool) (k : Bool → Ask α) (s : σ) : M.run (.bit c u k) s = M.run (k (M.bit s c u).1) (M.bit s c u).2 := rfl
theorem run_flat (M : Mach σ) (u : Bool) (k : Bool → Ask α) (s : σ) : M.run (.flat u k) s = M.run (k (M.flat s u).1) (M.flat s u).2 := rfl
theorem run_bind (M : Mach σ) (p : Ask α) (f : α → Ask β) (s : σ) : M.run (p.bind f) s = M.run (f (M.run p s).1) (M.run p s).2 := by
  induction p generalizing s with
  | ret a => rfl
  | bit c u k ih => exact ih _ _
  | flat u k ih => exact ih _ _
theorem bind_assoc (p : Ask α) (f : α → Ask β) (g : β → Ask γ) : (p.bind f).bind g = p.bind fun a => (f a).bind g := by
  induction p with
  | ret a => rfl
  | bit c u k ih => simp only [Ask.bind, ih]
  | flat u k ih => simp only [Ask.bind, ih]
/-! ### Contexts, how many, the shape -/
def Ask.Ctx : Ask α → Prop
  | .ret _ => True
  | .bit c _ k => c < 64 ∧ ∀ b, (k b).Ctx
  | .flat _ k => ∀ b, (k b).Ctx
theorem Ctx.bind {p : Ask α} {f : α → Ask β} (h : p.Ctx) (hf : ∀ a, (f a).Ctx) : (p.bind f).Ctx := by
  induction p with
  | ret a => exact hf a
  | bit c u k ih => exact ⟨h.1, fun b => ih b (h.2 b)⟩
  | flat u k ih => exact fun b => ih b (h b)
def Ask.Most : Ask α → Nat → Prop
  | .ret _, _ => True
  | .bit _ _ _, 0 => False
  | .bit _ _ k, n + 1 => ∀ b, (k b).Most n
  | .flat _ _, 0 => False
  | .flat _ k, n + 1 => ∀ b, (k b).Most n
theorem Ask.Most.mono {p : Ask α} : ∀ {n m : Nat}, p.Most n → n ≤ m → p.Most m := by
  induction p with
  | ret a => intro n m _ _; trivial
  | bit c u k ih =>
    intro n m h hm
    cases n with
    | zero => exact absurd h (fun h => h)
    | succ n =>
      obtain ⟨m, rfl⟩ : ∃ m', m = m' + 1 := ⟨m - 1, by omega⟩
      exact fun b => ih b (h b) (by omega)
  | flat u k ih =>
    intro n m h hm
    cases n with
    | zero => exact absurd h (fun h => h)
    | succ n =>
      obtain ⟨m, rfl⟩ : ∃ m', m = m' + 1 := ⟨m - 1, by omega⟩
      exact fun b => ih b (h b) (by omega)
theorem Most.bind {p : Ask α} {f : α → Ask β} : ∀ {n m : Nat}, p.Most n → (∀ a, (f a).Most m) → (p.bind f).Most (n + m) := by
  induction p with
  | ret a => intro n m _ hf; exact (hf a).mono (by omega)
  | bit c u k ih =>
    intro n m h hf
    cases n with
    | zero => exact absurd h (fun h => h)
    | succ n => rw [show n + 1 + m = (n + m) + 1 by omega]; exact fun b => ih b (h b) hf
  | flat u k ih =>
    intro n m h hf
    cases n with
    | zero => exact absurd h (fun h => h)
    | succ n => rw [show n + 1 + m = (n + m) + 1 by omega]; exact fun b => ih b (h b) hf
def Ask.Shape : Ask α → Ask α → Prop
  | .ret a, .ret a' => a = a'
  | .bit c _ k, .bit c' _ k' => c = c' ∧ ∀ b, (k b).Shape (k' b)
  | .flat _ k, .flat _ k' => ∀ b, (k b).Shape (k' b)
  | _, _ => False
theorem Shape.refl (p : Ask α) : p.Shape p := by
  induction p with
  | ret a => rfl
  | bit c u k ih => exact ⟨rfl, ih⟩
  | flat u k ih => exact ih
theorem Shape.bind {p p' : Ask α} {f f' : α → Ask β} (h : p.Shape p') (hf : ∀ a, (f a).Shape (f' a)) : (p.bind f).Shape (p'.bind f') := by
  induction p generalizing p' with
  | ret a =>
    cases p' with
    | ret a' => have e : a = a' := h; subst e; exact hf a
    | bit c u k => exact absurd h (fun h => h)
    | flat u k => exact absurd h (fun h => h)
  | bit c u k ih =>
    cases p' with
    | ret a' => exact absurd h (fun h => h)
    | bit c' u' k' => exact ⟨h.1, fun b => ih b (h.2 b)⟩
    | flat u' k' => exact absurd h (fun h => h)
  | flat u k ih =>
    cases p' with
    | ret a' => exact absurd h (fun h => h)
    | bit c' u' k' => exact absurd h (fun h => h)
    | flat u' k' => exact fun b => ih b (h b)
/-! ### What a writer answers: what it was told -/
def Ask.say : Ask α → α
  | .ret a => a
  | .bit _ u k => (k u).say
  | .flat u k => (k u).say
theorem say_bind (p : Ask α) (f : α → Ask β) : (p.bind f).say = (f p.say).say := by
  induction p with
  | ret a => rfl
  | bit c u k ih => exact ih u
  | flat u k ih => exact ih u
structure Echo (M : Mach σ) : Prop where
  bit : ∀ s c u, (M.bit s c u).1 = u
  flat : ∀ s u, (M.flat s u).1 = u
theorem echo_wr : Echo wrM := ⟨fun _ _ _ => rfl, fun _ _ => rfl⟩
theorem echo_xw : Echo xwM := ⟨fun _ _ _ => rfl, fun _ _ => rfl⟩
theorem Echo.run {M : Mach σ} (h : Echo M) (p : Ask α) (s : σ) : (M.run p s).1 = p.say := by
  induction p generalizing s with
  | ret a => rfl
  | bit c u k ih => rw [run_bit, h.bit]; exact ih u _
  | flat u k ih => rw [run_flat, h.flat]; exact ih u _
/-! ### A reader does not hear what it is told -/
structure Deaf (M : Mach σ) : Prop where
  bit : ∀ s c u u', M.bit s c u = M.bit s c u'
  flat : ∀ s u u', M.flat s u = M.flat s u'
theorem deaf_rd : Deaf rdM := ⟨fun _ _ _ _ => rfl, fun _ _ _ => rfl⟩
theorem deaf_xr : Deaf xrM := ⟨fun _ _ _ _ => rfl, fun _ _ _ => rfl⟩
theorem Deaf.run {M : Mach σ} (h : Deaf M) (p p' : Ask α) (s : σ) (hs : p.Shape p') : M.run p s = M.run p' s := by
  induction p generalizing p' s with
  | ret a =>
    cases p' with
    | ret a' => have e : a = a' := hs; subst e; rfl
    | bit c u k => exact absurd hs (fun h => h)
    | flat u k => exact absurd hs (fun h => h)
  | bit c u k ih =>
    cases p' with
    | ret a' => exact absurd hs (fun h => h)
    | bit c' u' k' =>
      obtain ⟨rfl, hk⟩ := hs
      rw [run_bit, run_bit, h.bit s c u u']
      exact ih _ _ _ (hk _)
    | flat u' k' => exact absurd hs (fun h => h)
  | flat u k ih =>
    cases p' with
    | ret a' => exact absurd hs (fun h => h)
    | bit c' u' k' => exact absurd hs (fun h => h)
    | flat u' k' =>
      rw [run_flat, run_flat, h.flat s u u']
      exact ih _ _ _ (hs _)
/-! ### Machines that go alike; there and back; bounds -/
theorem Alike.run {M : Mach σ} {N : Mach τ} {R : σ → τ → Prop} (H : Alike M N R) (p : Ask α) (hc : p.Ctx) {s : σ} {t : τ} (h : R s t) : (M.run p s).1 = (N.run p t).1 ∧ R (M.run p s).2 (N.run p t).2 := by
  induction p generalizing s t with
  | ret a => exact ⟨rfl, h⟩
  | bit c u k ih =>
    obtain ⟨h1, h2⟩ := H.bit s t c u h hc.1
    rw [run_bit, run_bit, h1]
    exact ih _ (hc.2 _) h2
  | flat u k ih =>
    obtain ⟨h1, h2⟩ := H.flat s t u h
    rw [run_flat, run_flat, h1]
    exact ih _ (hc _) h2
theorem Bk.run {f : Enc} (hf : 1 ≤ f.r) (p p' : Ask α) (hc : p.Ctx) (hs : p.Shape p') (s : Wr) (t : Rd) : Bk f s t (wrM.run p s) (rdM.run p' t) := by
  induction p generalizing p' s t with
  | ret a =>
    cases p' with
    | ret a' => have e : a = a' := hs; subst e; exact Bk.ret a
    | bit c u k => exact absurd hs (fun h => h)
    | flat u k => exact absurd hs (fun h => h)
  | bit c u k ih =>
    cases p' with
    | ret a' => exact absurd hs (fun h => h)
    | bit c' u' k' =>
      obtain ⟨rfl, hk⟩ := hs
      exact Bk.seq (fun a s' => wrM.run (k a) s') (fun a t' => rdM.run (k' a) t') (Bk.bit hf c hc.1 u u') (fun a => ih a _ (hc.2 a) (hk a) _ _)
    | flat u' k' => exact absurd hs (fun h => h)
  | flat u k ih =>
    cases p' with
    | ret a' => exact absurd hs (fun h => h)
    | bit c' u' k' => exact absurd hs (fun h => h)
    | flat u' k' => exact Bk.seq (fun a s' => wrM.run (k a) s') (fun a t' => rdM.run (k' a) t') (Bk.flat hf u u') (fun a => ih a _ (hc a) (hs a) _ _)
/-- Whatever is answered. -/
def Ask.All (P : α → Prop) : Ask α → Prop
  | .ret a => P a
  | .bit _ _ k => ∀ b, (k b).All P
  | .flat _ k => ∀ b, (k b).All P
theorem All.run {P : α → Prop} (M : Mach σ) {p : Ask α} (h : p.All P) (s : σ) : P (M.run p s).1 := by
  induction p generalizing s with
  | ret a => exact h
  | bit c u k ih => exact ih _ (h _) _
  | flat u k ih => exact ih _ (h _) _
theorem All.bind {P : α → Prop} {Q : β → Prop} {p : Ask α} {f : α → Ask β} (h : p.All P) (hf : ∀ a, P a → (f a).All Q) : (p.bind f).All Q := by
  induction p with
  | ret a => exact hf a h
  | bit c u k ih => exact fun b => ih b (h b)
  | flat u k ih => exact fun b => ih b (h b)
theorem All.true (p : Ask α) : p.All fun _ => True := by
  induction p with
  | ret a => trivial
  | bit c u k ih => exact fun b => ih b
  | flat u k ih => exact fun b => ih b
end Go.Proofs.YtkkgpdejmcpcpaaGreatDoor
/- Chapter 14, plain: squares of levels. -/
namespace Go.Proofs.YtkkgpdejmcpcpaaGreatDoor
variable {α β γ σ τ : Type}

/-! ### Numbers -/
def onesA (f : Nat → Nat) (v : Int) : Nat → Nat → Ask Nat
  | 0, n => .ret n
  | k + 1, n => .bit (f n) (decide ((n : Int) < v)) fun b => if b then onesA f v k (n + 1) else .ret n
def zerosA (u : Int) : Nat → Nat → Ask Nat
  | 0, z => .ret z
  | k + 1, z => .flat (decide (((2 ^ (z + 1) : Nat) : Int) ≤ u)) fun b => if b then zerosA u k (z + 1) else .ret z
def lowBit (u : Int) (k : Nat) : Bool := decide (u / ((2 ^ k : Nat) : Int) % 2 = 1)
def lowsA (u : Int) : Nat → Nat → Ask Nat
  | 0, n => .ret n
  | k + 1, n => .flat (lowBit u k) fun b => lowsA u k (2 * n + if b then 1 else 0)
def greatA (u : Int) : Ask Nat := (zerosA u 13 0).bind fun z => lowsA u z 1
def sizeCtx (base n : Nat) : Nat := base + 17 + min n 7
def sizeA (base : Nat) (v : Int) : Ask Nat := (onesA (sizeCtx base) v 14 0).bind fun n => if n = 14 then (greatA (v - 13)).bind fun g => .ret (13 + g) else .ret n
def levelA (base : Nat) (v : Int) : Ask Int := .flat (decide (v < 0)) fun d => (sizeA base (max v (-v) - 1)).bind fun n => .ret (if d then -(n : Int) - 1 else (n : Int) + 1)
/-- Asked where it is not the last one. -/
def askIf (p : Bool) (c : Nat) (u : Bool) (d : Bool) (k : Bool → Ask α) : Ask α := if p then .bit c u k else k d
abbrev SqR := Option Nat × List Int
def lvOut (x : Int) : Bool := decide (x < -16320) || decide (16320 < x)
/-- The levels from place i of the order on: the program's words. -/
def sqA (base last : Nat) (l : List Int) : List Nat → Nat → Int → List Int → Ask SqR
  | [], _, _, out => .ret (none, out)
  | a :: r, i, left, out =>
    askIf (decide (i < last)) (base + 1 + min i 7) (decide (l.getD a 0 ≠ 0)) true fun b =>
      if b then (levelA base (l.getD a 0)).bind fun x =>
        if lvOut x then .ret (some i, [])
        else askIf (decide (i < last)) (base + 9 + min i 7) (decide ((if l.getD a 0 ≠ 0 then left - 1 else left) = 0)) false fun e =>
          if e then .ret (none, out.set a x) else sqA base last l r (i + 1) (if l.getD a 0 ≠ 0 then left - 1 else left) (out.set a x)
      else sqA base last l r (i + 1) left out
def restZ (l : List Int) (r : List Nat) : Bool := r.all fun a => decide (l.getD a 0 = 0)
/-- .. the document's. -/
def rsqA (base last : Nat) (l : List Int) : List Nat → Nat → List Int → Ask SqR
  | [], _, out => .ret (none, out)
  | a :: r, i, out =>
    askIf (decide (i < last)) (base + 1 + min i 7) (decide (l.getD a 0 ≠ 0)) true fun b =>
      if b then (levelA base (l.getD a 0)).bind fun x =>
        if lvOut x then .ret (some i, [])
        else askIf (decide (i < last)) (base + 9 + min i 7) (restZ l r) false fun e =>
          if e then .ret (none, out.set a x) else rsqA base last l r (i + 1) (out.set a x)
      else rsqA base last l r (i + 1) out
def notZ (l : List Int) : Bool := l.any fun v => decide (v ≠ 0)
def countL (l : List Int) : Int := ((l.filter fun v => decide (v ≠ 0)).length : Int)
def countO (l : List Int) (r : List Nat) : Int := ((r.filter fun a => decide (l.getD a 0 ≠ 0)).length : Int)
def zerosL (n : Nat) : List Int := List.replicate n 0
def squareA (base : Nat) (ord : List Nat) (l : List Int) : Ask SqR :=
  .bit base (notZ l) fun b => if b then sqA base (l.length - 1) l ord 0 (countL l) (zerosL l.length) else .ret (none, zerosL l.length)
def rsquareA (base : Nat) (ord : List Nat) (l : List Int) : Ask SqR :=
  .bit base (notZ l) fun b => if b then rsqA base (l.length - 1) l ord 0 (zerosL l.length) else .ret (none, zerosL l.length)

/-! ### Shape -/
theorem shape_askIf {p : Bool} {c : Nat} {u u' d : Bool} {k k' : Bool → Ask α} (h : ∀ b, (k b).Shape (k' b)) : (askIf p c u d k).Shape (askIf p c u' d k') := by
  unfold askIf
  cases p
  · exact h d
  · exact ⟨rfl, h⟩
theorem shape_ones (f : Nat → Nat) (v v' : Int) : ∀ k n, (onesA f v k n).Shape (onesA f v' k n) := by
  intro k
  induction k with
  | zero => intro n; rfl
  | succ k ih =>
    intro n
    refine ⟨rfl, fun b => ?_⟩
    cases b
    · exact Shape.refl _
    · exact ih _
theorem shape_zeros (v v' : Int) : ∀ k n, (zerosA v k n).Shape (zerosA v' k n) := by
  intro k
  induction k with
  | zero => intro n; rfl
  | succ k ih =>
    intro n b
    cases b
    · exact Shape.refl _
    · exact ih _
theorem shape_lows (v v' : Int) : ∀ k n, (lowsA v k n).Shape (lowsA v' k n) := by
  intro k
  induction k with
  | zero => intro n; rfl
  | succ k ih => intro n b; exact ih _
theorem shape_great (v v' : Int) : (greatA v).Shape (greatA v') := Shape.bind (shape_zeros _ _ _ _) fun _ => shape_lows _ _ _ _
theorem shape_size (base : Nat) (v v' : Int) : (sizeA base v).Shape (sizeA base v') := Shape.bind (shape_ones _ _ _ _ _) fun n => by
  split
  · exact Shape.bind (shape_great _ _) fun _ => Shape.refl _
  · exact Shape.refl _
theorem shape_level (base : Nat) (v v' : Int) : (levelA base v).Shape (levelA base v') := fun _ => Shape.bind (shape_size _ _ _) fun _ => Shape.refl _
theorem shape_sq (base last : Nat) (l l' : List Int) : ∀ (r : List Nat) (i : Nat) (left left' : Int) (out : List Int), (sqA base last l r i left out).Shape (sqA base last l' r i left' out) := by
  intro r
  induction r with
  | nil => intro i left left' out; exact Shape.refl _
  | cons a r ih =>
    intro i left left' out
    refine shape_askIf fun b => ?_
    cases b
    · exact ih _ _ _ _
    · refine Shape.bind (shape_level _ _ _) fun x => ?_
      split
      · exact Shape.refl _
      · refine shape_askIf fun e => ?_
        cases e
        · exact ih _ _ _ _
        · exact Shape.refl _
theorem shape_sqr (base last : Nat) (l l' : List Int) : ∀ (r : List Nat) (i : Nat) (left : Int) (out : List Int), (sqA base last l r i left out).Shape (rsqA base last l' r i out) := by
  intro r
  induction r with
  | nil => intro i left out; exact Shape.refl _
  | cons a r ih =>
    intro i left out
    refine shape_askIf fun b => ?_
    cases b
    · exact ih _ _ _
    · refine Shape.bind (shape_level _ _ _) fun x => ?_
      split
      · exact Shape.refl _
      · refine shape_askIf fun e => ?_
        cases e
        · exact ih _ _ _
        · exact Shape.refl _
theorem shape_square (base : Nat) (ord : List Nat) (l l' : List Int) (h : l.length = l'.length) : (squareA base ord l).Shape (squareA base ord l') := by
  unfold squareA
  rw [h]
  refine ⟨rfl, fun b => ?_⟩
  cases b
  · exact Shape.refl _
  · exact shape_sq _ _ _ _ _ _ _ _ _
theorem shape_rsquare (base : Nat) (ord : List Nat) (l l' : List Int) (h : l.length = l'.length) : (squareA base ord l).Shape (rsquareA base ord l') := by
  unfold squareA rsquareA
  rw [h]
  refine ⟨rfl, fun b => ?_⟩
  cases b
  · exact Shape.refl _
  · exact shape_sqr _ _ _ _ _ _ _ _

/-! ### What a writer says -/
theorem countO_cons (l : List Int) (a : Nat) (r : List Nat) : countO l (a :: r) = (if l.getD a 0 ≠ 0 then 1 else 0) + countO l r := by
  unfold countO
  rw [List.filter_cons]
  split <;> simp_all <;> omega
theorem countO_zero (l : List Int) (r : List Nat) : decide (countO l r = 0) = restZ l r := by
  induction r with
  | nil => rfl
  | cons a r ih =>
    rw [countO_cons]
    have h0 : 0 ≤ countO l r := by unfold countO; omega
    unfold restZ at *
    rw [List.all_cons, ← ih]
    by_cases h : l.getD a 0 = 0
    · rw [if_neg (fun k => k h), Int.zero_add, decide_eq_true h, Bool.true_and]
    · simp only [h, ne_eq, not_false_eq_true, if_true, decide_false, Bool.false_and, decide_eq_false_iff_not]
      omega
/-- Told by a writer, the program and the document ask the same. -/
theorem echo_sq {M : Mach σ} (hE : Echo M) (base last : Nat) (l : List Int) : ∀ (r : List Nat) (i : Nat) (out : List Int) (s : σ), M.run (sqA base last l r i (countO l r) out) s = M.run (rsqA base last l r i out) s := by
  intro r
  induction r with
  | nil => intro i out s; rfl
  | cons a r ih =>
    intro i out s
    have hcz := countO_zero l r
    have hcc := countO_cons l a r
    have key : ∀ (x : Int) (s : σ), M.run (if lvOut x then (.ret (some i, []) : Ask SqR) else askIf (decide (i < last)) (base + 9 + min i 7) (decide ((if l.getD a 0 ≠ 0 then countO l (a :: r) - 1 else countO l (a :: r)) = 0)) false fun e => if e then .ret (none, out.set a x) else sqA base last l r (i + 1) (if l.getD a 0 ≠ 0 then countO l (a :: r) - 1 else countO l (a :: r)) (out.set a x)) s
        = M.run (if lvOut x then (.ret (some i, []) : Ask SqR) else askIf (decide (i < last)) (base + 9 + min i 7) (restZ l r) false fun e => if e then .ret (none, out.set a x) else rsqA base last l r (i + 1) (out.set a x)) s := by
      intro x s
      have e : (if l.getD a 0 ≠ 0 then countO l (a :: r) - 1 else countO l (a :: r)) = countO l r := by
        rw [hcc]
        split <;> omega
      rw [e, hcz]
      split
      · rfl
      · unfold askIf
        split
        · rw [run_bit, run_bit]
          split
          · rfl
          · exact ih _ _ _
        · exact ih _ _ _
    unfold sqA rsqA
    unfold askIf at key ⊢
    by_cases hi : i < last
    · rw [if_pos (c := decide (i < last) = true) (by simpa using hi), if_pos (c := decide (i < last) = true) (by simpa using hi), run_bit, run_bit, hE.bit]
      by_cases hz : l.getD a 0 = 0
      · have e2 : countO l (a :: r) = countO l r := by rw [hcc, if_neg (fun k => k hz), Int.zero_add]
        have hz2 : ¬ (decide (l.getD a 0 ≠ 0) = true) := fun k => of_decide_eq_true k hz
        rw [if_neg (c := decide (l.getD a 0 ≠ 0) = true) hz2, if_neg (c := decide (l.getD a 0 ≠ 0) = true) hz2, e2]
        exact ih _ _ _
      · have hz2 : decide (l.getD a 0 ≠ 0) = true := decide_eq_true hz
        rw [if_pos (c := decide (l.getD a 0 ≠ 0) = true) hz2, if_pos (c := decide (l.getD a 0 ≠ 0) = true) hz2, run_bind, run_bind]
        exact key _ _
    · rw [if_neg (c := decide (i < last) = true) (by simpa using hi), if_neg (c := decide (i < last) = true) (by simpa using hi)]
      show M.run ((levelA base (l.getD a 0)).bind _) _ = M.run ((levelA base (l.getD a 0)).bind _) _
      rw [run_bind, run_bind]
      exact key _ _
theorem echo_square {M : Mach σ} (hE : Echo M) (base : Nat) (ord : List Nat) (l : List Int) (hcl : countL l = countO l ord) (s : σ) : M.run (squareA base ord l) s = M.run (rsquareA base ord l) s := by
  unfold squareA rsquareA
  rw [run_bit, run_bit, hcl]
  split
  · exact echo_sq hE _ _ _ _ _ _ _
  · rfl
theorem deaf_square {M : Mach σ} (hD : Deaf M) (base : Nat) (ord : List Nat) (l : List Int) (s : σ) : M.run (squareA base ord l) s = M.run (rsquareA base ord l) s := hD.run _ _ _ (shape_rsquare _ _ _ _ rfl)

/-! ### Contexts; how many -/
theorem ctx_askIf {p : Bool} {c : Nat} {u d : Bool} {k : Bool → Ask α} (hc : c < 64) (h : ∀ b, (k b).Ctx) : (askIf p c u d k).Ctx := by
  unfold askIf
  cases p
  · exact h d
  · exact ⟨hc, h⟩
theorem ctx_ones (f : Nat → Nat) (hf : ∀ n, f n < 64) (v : Int) : ∀ k n, (onesA f v k n).Ctx := by
  intro k
  induction k with
  | zero => intro n; trivial
  | succ k ih =>
    intro n
    refine ⟨hf n, fun b => ?_⟩
    cases b
    · trivial
    · exact ih _
theorem ctx_zeros (v : Int) : ∀ k n, (zerosA v k n).Ctx := by
  intro k
  induction k with
  | zero => intro n; trivial
  | succ k ih =>
    intro n b
    cases b
    · trivial
    · exact ih _
theorem ctx_lows (v : Int) : ∀ k n, (lowsA v k n).Ctx := by
  intro k
  induction k with
  | zero => intro n; trivial
  | succ k ih => intro n b; exact ih _
theorem ctx_great (v : Int) : (greatA v).Ctx := Ctx.bind (ctx_zeros _ _ _) fun _ => ctx_lows _ _ _
theorem ctx_size (base : Nat) (hb : base ≤ 39) (v : Int) : (sizeA base v).Ctx := Ctx.bind (ctx_ones _ (fun n => by unfold sizeCtx; omega) _ _ _) fun n => by
  split
  · exact Ctx.bind (ctx_great _) fun _ => trivial
  · trivial
theorem ctx_level (base : Nat) (hb : base ≤ 39) (v : Int) : (levelA base v).Ctx := fun _ => Ctx.bind (ctx_size _ hb _) fun _ => trivial
theorem ctx_sq (base last : Nat) (hb : base ≤ 39) (l : List Int) : ∀ (r : List Nat) (i : Nat) (left : Int) (out : List Int), (sqA base last l r i left out).Ctx := by
  intro r
  induction r with
  | nil => intro i left out; trivial
  | cons a r ih =>
    intro i left out
    refine ctx_askIf (by omega) fun b => ?_
    cases b
    · exact ih _ _ _
    · refine Ctx.bind (ctx_level _ hb _) fun x => ?_
      split
      · trivial
      · refine ctx_askIf (by omega) fun e => ?_
        cases e
        · exact ih _ _ _
        · trivial
theorem ctx_square (base : Nat) (hb : base ≤ 39) (ord : List Nat) (l : List Int) : (squareA base ord l).Ctx := by
  refine ⟨by omega, fun b => ?_⟩
  cases b
  · trivial
  · exact ctx_sq _ _ hb _ _ _ _ _
theorem most_ones (f : Nat → Nat) (v : Int) : ∀ k n, (onesA f v k n).Most k := by
  intro k
  induction k with
  | zero => intro n; trivial
  | succ k ih =>
    intro n b
    cases b
    · trivial
    · exact ih _
theorem most_zeros (v : Int) : ∀ k n, (zerosA v k n).Most k := by
  intro k
  induction k with
  | zero => intro n; trivial
  | succ k ih =>
    intro n b
    cases b
    · trivial
    · exact ih _
theorem all_zeros (v : Int) : ∀ k n, (zerosA v k n).All fun z => z ≤ n + k := by
  intro k
  induction k with
  | zero => intro n; exact Nat.le_refl _
  | succ k ih =>
    intro n b
    cases b
    · show n ≤ n + (k + 1); omega
    · have := ih (n + 1)
      rw [show n + (k + 1) = n + 1 + k by omega]
      exact this
theorem Most.bindAll {P : α → Prop} {p : Ask α} {f : α → Ask β} : ∀ {n m : Nat}, p.Most n → p.All P → (∀ a, P a → (f a).Most m) → (p.bind f).Most (n + m) := by
  induction p with
  | ret a => intro n m _ ha hf; exact (hf a ha).mono (by omega)
  | bit c u k ih =>
    intro n m h ha hf
    cases n with
    | zero => exact absurd h (fun h => h)
    | succ n => rw [show n + 1 + m = (n + m) + 1 by omega]; exact fun b => ih b (h b) (ha b) hf
  | flat u k ih =>
    intro n m h ha hf
    cases n with
    | zero => exact absurd h (fun h => h)
    | succ n => rw [show n + 1 + m = (n + m) + 1 by omega]; exact fun b => ih b (h b) (ha b) hf
theorem most_lows (v : Int) : ∀ k n, (lowsA v k n).Most k := by
  intro k
  induction k with
  | zero => intro n; trivial
  | succ k ih => intro n b; exact ih _
theorem most_great (v : Int) : (greatA v).Most 26 := Most.bindAll (n := 13) (m := 13) (most_zeros _ _ _) (all_zeros _ _ _) fun z hz => (most_lows _ _ _).mono (by omega)
theorem most_size (base : Nat) (v : Int) : (sizeA base v).Most 40 := Most.bind (n := 14) (m := 26) (most_ones _ _ _ _) fun n => by
  split
  · exact Most.bind (n := 26) (m := 0) (most_great _) fun _ => trivial
  · trivial
theorem most_level (base : Nat) (v : Int) : (levelA base v).Most 41 := fun _ => Most.bind (n := 40) (m := 0) (most_size _ _) fun _ => trivial
theorem most_askIf {p : Bool} {c : Nat} {u d : Bool} {k : Bool → Ask α} {n : Nat} (h : ∀ b, (k b).Most n) : (askIf p c u d k).Most (n + 1) := by
  unfold askIf
  cases p
  · exact (h d).mono (by omega)
  · exact h
theorem most_sq (base last : Nat) (l : List Int) : ∀ (r : List Nat) (i : Nat) (left : Int) (out : List Int), (sqA base last l r i left out).Most (43 * r.length) := by
  intro r
  induction r with
  | nil => intro i left out; trivial
  | cons a r ih =>
    intro i left out
    rw [List.length_cons, show 43 * (r.length + 1) = (41 + (43 * r.length + 1)) + 1 by omega]
    refine most_askIf fun b => ?_
    cases b
    · exact (ih _ _ _).mono (by omega)
    · refine Most.bind (most_level _ _) fun x => ?_
      split
      · trivial
      · refine most_askIf fun e => ?_
        cases e
        · exact ih _ _ _
        · trivial
theorem most_square (base : Nat) (ord : List Nat) (l : List Int) : (squareA base ord l).Most (43 * ord.length + 1) := by
  intro b
  cases b
  · trivial
  · exact most_sq _ _ _ _ _ _ _

/-! ### Bounds -/
/-- What may be answered for a square of n levels. -/
def SqOk (n : Nat) (x : SqR) : Prop := (x.1 = none ∧ x.2.length = n ∧ ∀ v ∈ x.2, -16320 ≤ v ∧ v ≤ 16320) ∨ (∃ i, x.1 = some i ∧ i < n ∧ x.2 = [])
theorem lvOut_false {x : Int} (h : lvOut x = false) : -16320 ≤ x ∧ x ≤ 16320 := by
  unfold lvOut at h
  simp at h
  omega
theorem all_askIf {P : α → Prop} {p : Bool} {c : Nat} {u d : Bool} {k : Bool → Ask α} (h : ∀ b, (k b).All P) : (askIf p c u d k).All P := by
  unfold askIf
  cases p
  · exact h d
  · exact h
theorem all_sq (base last : Nat) (l : List Int) (n : Nat) : ∀ (r : List Nat) (i : Nat) (left : Int) (out : List Int), i + r.length = n → out.length = n → (∀ v ∈ out, -16320 ≤ v ∧ v ≤ 16320) → (sqA base last l r i left out).All (SqOk n) := by
  intro r
  induction r with
  | nil => intro i left out _ h2 h3; exact .inl ⟨rfl, h2, h3⟩
  | cons a r ih =>
    intro i left out h1 h2 h3
    rw [List.length_cons] at h1
    refine all_askIf fun b => ?_
    cases b
    · exact ih _ _ _ (by omega) h2 h3
    · refine All.bind (All.true _) fun x _ => ?_
      split
      · exact .inr ⟨i, rfl, by omega, rfl⟩
      · rename_i hx
        have hx' := lvOut_false (by simpa using hx)
        have h4 : ∀ v ∈ out.set a x, -16320 ≤ v ∧ v ≤ 16320 := by
          intro v hv
          rcases List.mem_or_eq_of_mem_set hv with h | h
          · exact h3 v h
          · rw [h]; exact hx'
        refine all_askIf fun e => ?_
        cases e
        · exact ih _ _ _ (by omega) (by rw [List.length_set]; exact h2) h4
        · exact .inl ⟨rfl, by rw [List.length_set]; exact h2, h4⟩
theorem zerosL_ok (n : Nat) : ∀ v ∈ zerosL n, -16320 ≤ v ∧ v ≤ 16320 := by
  intro v hv
  have := List.eq_of_mem_replicate hv
  omega
theorem all_square (base : Nat) (ord : List Nat) (l : List Int) (h : ord.length = l.length) : (squareA base ord l).All (SqOk l.length) := by
  intro b
  cases b
  · exact .inl ⟨rfl, by simp [zerosL], zerosL_ok _⟩
  · exact all_sq _ _ _ _ _ _ _ _ (by omega) (by simp [zerosL]) (zerosL_ok _)
end Go.Proofs.YtkkgpdejmcpcpaaGreatDoor

