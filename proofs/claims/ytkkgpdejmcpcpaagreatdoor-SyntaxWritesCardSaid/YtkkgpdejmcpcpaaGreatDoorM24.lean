/- Parts: XSqQ, XSynA. -/
import Derived.Test.YtkkgpdejmcpcpaaGreatDoorM23
import Derived.Lib.MinMax
/- Chapter 20, plain: what a writer is asked first; what it answers; what a reader tells. -/
namespace Go.Proofs.YtkkgpdejmcpcpaaGreatDoor
open Go.RowKit
variable {σ τ : Type}

def levelsNo (l : List Int) (n : Nat) : Int := if l.length ≠ n then 14 else if l.any lvOut then 3 else 0
def smallNo : List (List Int) → Int
  | [] => 0
  | l :: r => if levelsNo l 16 ≠ 0 then levelsNo l 16 else smallNo r
def inMode (m : Int) : Bool := decide (0 ≤ m) && decide (m ≤ 3)
def inPart (n : Int) : Bool := decide (-15 ≤ n) && decide (n ≤ 15)
def boundsS (s : SqS) : Bool := if s.kind = 1 then inPart s.x && inPart s.y else if s.kind = 2 then inMode s.mode else if s.kind = 3 then s.modes.all inMode else true
def askNo (key : Bool) (s : SqS) : Int :=
  if s.kind < 0 ∨ 3 < s.kind ∨ (key = true ∧ s.kind < 2) then 13
  else if boundsS s = false then 3
  else if s.kind = 1 ∨ s.kind = 2 then levelsNo s.large 64
  else if s.kind = 3 then smallNo s.small
  else 0
/-- The parts that a square's kind has. -/
def partsS (s : SqS) : SqS :=
  if s.kind = 1 then { bareS 1 with x := s.x, y := s.y, large := s.large }
  else if s.kind = 2 then { bareS 2 with mode := s.mode, large := s.large }
  else if s.kind = 3 then { bareS 3 with modes := s.modes, small := s.small }
  else bareS s.kind
/-- Four of each. -/
def Four (s : SqS) : Prop := s.modes.length = 4 ∧ s.small.length = 4
theorem levelsNo_zero {l : List Int} {n : Nat} (h : levelsNo l n = 0) : l.length = n ∧ l.any lvOut = false := by
  unfold levelsNo at h
  by_cases h1 : l.length = n
  · rw [if_neg (fun k => k h1)] at h
    cases h2 : l.any lvOut
    · exact ⟨h1, rfl⟩
    · rw [h2] at h; exact absurd h (by decide)
  · rw [if_pos h1] at h; omega
theorem smallNo_zero : ∀ {r : List (List Int)}, smallNo r = 0 → ∀ l ∈ r, l.length = 16 ∧ l.any lvOut = false
  | [], _, l, hl => by cases hl
  | a :: r, h, l, hl => by
    unfold smallNo at h
    by_cases h1 : levelsNo a 16 = 0
    · rw [if_neg (fun k => k h1)] at h
      rcases List.mem_cons.1 hl with rfl | hl
      · exact levelsNo_zero h1
      · exact smallNo_zero h l hl
    · rw [if_pos h1] at h; exact absurd h h1
theorem smallNo_of : ∀ {r : List (List Int)}, (∀ l ∈ r, l.length = 16 ∧ l.any lvOut = false) → smallNo r = 0
  | [], _ => rfl
  | a :: r, h => by
    have h1 : levelsNo a 16 = 0 := by
      obtain ⟨h2, h3⟩ := h a (by simp)
      unfold levelsNo
      rw [if_neg (fun k => k h2), h3]; rfl
    unfold smallNo
    rw [if_neg (fun k => k h1)]
    exact smallNo_of fun l hl => h l (by simp [hl])
/-- What is asked first is right. -/
structure RightS (key : Bool) (s : SqS) : Prop where
  k0 : 0 ≤ s.kind
  k3 : s.kind ≤ 3
  key : key = true → 2 ≤ s.kind
  one : s.kind = 1 → (-15 ≤ s.x ∧ s.x ≤ 15) ∧ (-15 ≤ s.y ∧ s.y ≤ 15)
  two : s.kind = 2 → 0 ≤ s.mode ∧ s.mode ≤ 3
  three : s.kind = 3 → (∀ m ∈ s.modes, 0 ≤ m ∧ m ≤ 3) ∧ ∀ l ∈ s.small, l.length = 16 ∧ l.any lvOut = false
  large : s.kind = 1 ∨ s.kind = 2 → s.large.length = 64 ∧ s.large.any lvOut = false
theorem inMode_iff {m : Int} : inMode m = true ↔ 0 ≤ m ∧ m ≤ 3 := by unfold inMode; simp
theorem inPart_iff {m : Int} : inPart m = true ↔ -15 ≤ m ∧ m ≤ 15 := by unfold inPart; simp
theorem right_of {key : Bool} {s : SqS} (h : askNo key s = 0) : RightS key s := by
  unfold askNo at h
  by_cases h1 : s.kind < 0 ∨ 3 < s.kind ∨ (key = true ∧ s.kind < 2)
  · rw [if_pos h1] at h; omega
  · rw [if_neg h1] at h
    have hk : 0 ≤ s.kind ∧ s.kind ≤ 3 ∧ (key = true → 2 ≤ s.kind) := ⟨by omega, by omega, fun e => by
      rcases Int.lt_or_le s.kind 2 with h2 | h2
      · exact absurd (.inr (.inr ⟨e, h2⟩)) h1
      · exact h2⟩
    by_cases h2 : boundsS s = false
    · rw [if_pos h2] at h; omega
    · rw [if_neg h2] at h
      have h2' : boundsS s = true := by simpa using h2
      clear h1 h2
      unfold boundsS at h2'
      refine ⟨hk.1, hk.2.1, hk.2.2, fun e => ?_, fun e => ?_, fun e => ?_, fun e => ?_⟩
      · rw [if_pos e, Bool.and_eq_true, inPart_iff, inPart_iff] at h2'
        exact h2'
      · rw [if_neg (by omega), if_pos e, inMode_iff] at h2'
        exact h2'
      · rw [if_neg (by omega), if_neg (by omega), if_pos e, List.all_eq_true] at h2'
        rw [if_neg (by omega), if_pos e] at h
        exact ⟨fun m hm => inMode_iff.1 (h2' m hm), smallNo_zero h⟩
      · rw [if_pos e] at h
        exact levelsNo_zero h
theorem RightS.ask {key : Bool} {s : SqS} (h : RightS key s) : askNo key s = 0 := by
  have hk0 := h.k0
  have hk3 := h.k3
  unfold askNo
  rw [if_neg (by
    rintro (e | e | ⟨e, e2⟩)
    · omega
    · omega
    · have := h.key e; omega)]
  have hb : boundsS s = true := by
    unfold boundsS
    split
    · rename_i e
      obtain ⟨a, b⟩ := h.one e
      rw [inPart_iff.2 a, inPart_iff.2 b]; rfl
    · split
      · rename_i e
        exact inMode_iff.2 (h.two e)
      · split
        · rename_i e
          exact List.all_eq_true.2 fun m hm => inMode_iff.2 ((h.three e).1 m hm)
        · rfl
  rw [if_neg (by rw [hb]; decide)]
  split
  · rename_i e
    obtain ⟨a, b⟩ := h.large e
    unfold levelsNo
    rw [if_neg (fun k => k a), b]; rfl
  · split
    · rename_i e
      exact smallNo_of (h.three e).2
    · rfl
/-! ### A writer answers the parts -/
theorem cut_eq {m a b : Int} (h1 : a ≤ m) (h2 : m ≤ b) : cut m a b = m := by unfold cut; omega
theorem say_kind {k : Int} (h0 : 0 ≤ k) (h3 : k ≤ 3) : (kindA k).say = k := by
  unfold kindA
  rw [say_bind]
  have := say_ones (fun n => n) k 3 0 (by omega)
  show (((onesA (fun n => n) k 3 0).say : Nat) : Int) = k
  omega
theorem say_mode {m : Int} (h0 : 0 ≤ m) (h3 : m ≤ 3) : (modeA m).say = m := by
  show ((if decide (1 < cut m 0 3) then 2 else 0) + (if decide (cut m 0 3 % 2 = 1) then 1 else 0) : Int) = m
  rw [cut_eq h0 h3]
  have : m = 0 ∨ m = 1 ∨ m = 2 ∨ m = 3 := by omega
  rcases this with rfl | rfl | rfl | rfl <;> decide
theorem say_part {v : Int} (h0 : -15 ≤ v) (h3 : v ≤ 15) : (partA v).say = v := by
  unfold partA
  rw [cut_eq h0 h3]
  show (if decide (v ≠ 0) then Ask.flat (decide (v < 0)) fun d => (onesA partCtx (max v (-v) - 1) 14 0).bind fun n => .ret (if d then -(n : Int) - 1 else (n : Int) + 1) else .ret 0 : Ask Int).say = v
  by_cases h : v = 0
  · rw [if_neg (by simp [h])]; exact h.symm
  · rw [if_pos (by simpa using h)]
    show ((onesA partCtx (max v (-v) - 1) 14 0).bind fun n => (.ret (if decide (v < 0) then -(n : Int) - 1 else (n : Int) + 1) : Ask Int)).say = v
    rw [say_bind]
    have := say_ones partCtx (max v (-v) - 1) 14 0 (by omega)
    generalize (onesA partCtx (max v (-v) - 1) 14 0).say = n at *
    show (if decide (v < 0) then -(n : Int) - 1 else (n : Int) + 1) = v
    by_cases h1 : v < 0
    · rw [if_pos (by simpa using h1)]; omega
    · rw [if_neg (by simpa using h1)]; omega
theorem say_head {key : Bool} {k : Int} (h0 : 0 ≤ k) (h3 : k ≤ 3) (hk : key = true → 2 ≤ k) : (headA key k).say = k := by
  cases key
  · exact say_kind h0 h3
  · show (if decide (k = 3) then (3 : Int) else 2) = k
    have := hk rfl
    by_cases h : k = 3
    · rw [if_pos (by simpa using h)]; omega
    · rw [if_neg (by simpa using h)]; omega
theorem in_lv {l : List Int} (h : l.any lvOut = false) : ∀ v ∈ l, -16320 ≤ v ∧ v ≤ 16320 := by
  intro v hv
  apply lvOut_false
  rw [Bool.eq_false_iff]
  intro h2
  have := List.any_eq_true.2 ⟨v, hv, h2⟩
  rw [h] at this
  exact Bool.noConfusion this
theorem say_small {l : List Int} (h : l.length = 16 ∧ l.any lvOut = false) : (squareA 14 (ordOf 4) l).say = (none, l) :=
  say_square _ _ _ (by rw [h.1]; exact ord4_ok) (in_lv h.2) (by omega)
theorem say_large {l : List Int} (h : l.length = 64 ∧ l.any lvOut = false) : (largeA l).say = (none, l) :=
  say_square _ _ _ (by rw [h.1]; exact ord8_ok) (in_lv h.2) (by omega)
theorem say_smalls : ∀ (ms : List Int) (ls : List (List Int)) (a : List Int) (b : List (List Int)), ms.length = ls.length → (∀ m ∈ ms, 0 ≤ m ∧ m ≤ 3) → (∀ l ∈ ls, l.length = 16 ∧ l.any lvOut = false) → (smallsA (ms.zip ls) a b).say = (none, a ++ ms, b ++ ls)
  | [], [], a, b, _, _, _ => by rw [List.append_nil, List.append_nil]; rfl
  | m :: ms, l :: ls, a, b, hl, hm, hv => by
    have e : (smallsA ((m :: ms).zip (l :: ls)) a b) = (modeA m).bind fun m' => (squareA 14 (ordOf 4) l).bind fun q => match q.1 with
      | some i => .ret (some i, a ++ [m'], b)
      | none => smallsA (ms.zip ls) (a ++ [m']) (b ++ [q.2]) := rfl
    rw [e, say_bind, say_bind, say_mode (hm m (by simp)).1 (hm m (by simp)).2, say_small (hv l (by simp))]
    show (smallsA (ms.zip ls) (a ++ [m]) (b ++ [l])).say = _
    rw [say_smalls ms ls _ _ (by simpa using hl) (fun x hx => hm x (by simp [hx])) (fun x hx => hv x (by simp [hx]))]
    simp
  | [], _ :: _, _, _, h, _, _ => by simp at h
  | _ :: _, [], _, _, h, _, _ => by simp at h
theorem say_rest {s : SqS} {key : Bool} (h : RightS key s) (h4 : Four s) : (restA s.kind s).say = (none, partsS s) := by
  have hk0 := h.k0
  have hk3 := h.k3
  unfold restA restG partsS
  by_cases e3 : s.kind = 3
  · rw [if_pos e3, if_neg (by omega), if_neg (by omega), if_pos e3, say_bind, say_smalls _ _ _ _ (by rw [h4.1, h4.2]) (h.three e3).1 (h.three e3).2]
    rfl
  · rw [if_neg e3]
    by_cases e0 : s.kind = 0
    · rw [if_pos e0, if_neg (by omega), if_neg (by omega), if_neg e3, e0]; rfl
    · rw [if_neg e0]
      by_cases e1 : s.kind = 1
      · obtain ⟨⟨a, b⟩, c, d⟩ := h.one e1
        rw [if_pos e1, if_pos e1, say_bind, say_bind, say_bind, say_part a b, say_part c d, say_large (h.large (.inl e1))]
        rfl
      · have e2 : s.kind = 2 := by omega
        obtain ⟨a, b⟩ := h.two e2
        rw [if_neg e1, if_neg e1, if_pos e2, say_bind, say_bind, say_mode a b, say_large (h.large (.inr e2)), e2]
        rfl
theorem say_code {s : SqS} {key : Bool} (h : RightS key s) (h4 : Four s) : (codeA key s).say = (none, partsS s) := by
  unfold codeA codeG
  rw [say_bind, say_head h.k0 h.k3 h.key]
  exact say_rest h h4
/-! ### The document's square asks alike -/
theorem run_bind_congr {α β : Type} (M : Mach σ) {p p' : Ask α} {f f' : α → Ask β} (h : ∀ s, M.run p s = M.run p' s) (hf : ∀ a s, M.run (f a) s = M.run (f' a) s) (s : σ) : M.run (p.bind f) s = M.run (p'.bind f') s := by
  rw [run_bind, run_bind, h, hf]
def AlikeSq (M : Mach σ) (base : Nat) (ord : List Nat) (l : List Int) : Prop := ∀ s, M.run (rsquareA base ord l) s = M.run (squareA base ord l) s
theorem alike_smalls (M : Mach σ) : ∀ (r : List (Int × List Int)) (a : List Int) (b : List (List Int)), (∀ p ∈ r, AlikeSq M 14 (ordOf 4) p.2) → ∀ s, M.run (smallsG rsquareA r a b) s = M.run (smallsA r a b) s
  | [], _, _, _, _ => rfl
  | (m, l) :: r, a, b, h, s => by
    refine run_bind_congr M (fun _ => rfl) (fun m' => run_bind_congr M (h (m, l) (by simp)) fun q t => ?_) s
    rcases q with ⟨o, q⟩
    cases o with
    | some i => rfl
    | none => exact alike_smalls M r _ _ (fun p hp => h p (by simp [hp])) t
theorem alike_rest (M : Mach σ) (k : Int) (s : SqS) (h3 : k = 3 → ∀ l ∈ s.small, AlikeSq M 14 (ordOf 4) l) (hl : k = 1 ∨ k = 2 → AlikeSq M 39 (ordOf 8) s.large) (hk : 0 ≤ k ∧ k ≤ 3) (t : σ) : M.run (restG rsquareA k s) t = M.run (restA k s) t := by
  unfold restA restG
  split
  · rename_i e
    exact run_bind_congr M (alike_smalls M _ _ _ fun p hp => h3 e _ (List.of_mem_zip hp).2) (fun _ _ => rfl) t
  · split
    · rfl
    · split
      · rename_i e
        exact run_bind_congr M (fun _ => rfl) (fun _ => run_bind_congr M (fun _ => rfl) fun _ => run_bind_congr M (hl (.inl e)) fun _ _ => rfl) t
      · exact run_bind_congr M (fun _ => rfl) (fun _ => run_bind_congr M (hl (.inr (by omega))) fun _ _ => rfl) t
/-- .. of a writer. -/
theorem echo_code {M : Mach σ} (hE : Echo M) {key : Bool} {s : SqS} (h : RightS key s) (t : σ) : M.run (codeG rsquareA key s) t = M.run (codeA key s) t := by
  unfold codeA codeG
  rw [run_bind, run_bind, hE.run, say_head h.k0 h.k3 h.key]
  refine alike_rest M _ s (fun e l hl u => (echo_square hE _ _ _ ?_ u).symm) (fun e u => (echo_square hE _ _ _ ?_ u).symm) ⟨h.k0, h.k3⟩ _
  · exact countL_ord (by rw [((h.three e).2 l hl).1]; exact ord4_ok)
  · exact countL_ord (by rw [(h.large e).1]; exact ord8_ok)
/-- .. of a reader. -/
theorem deaf_code {M : Mach σ} (hD : Deaf M) (key : Bool) (s : SqS) (t : σ) : M.run (codeG rsquareA key s) t = M.run (codeA key s) t := by
  unfold codeA codeG
  rw [run_bind, run_bind]
  have h := All.run M (all_head key s.kind) t
  exact alike_rest M _ s (fun _ _ _ u => (deaf_square hD _ _ _ u).symm) (fun _ u => (deaf_square hD _ _ _ u).symm) (by omega) _
theorem echo_told {M : Mach σ} (hE : Echo M) {key : Bool} {s : SqS} (h : RightS key s) (h4 : Four s) (t : σ) : (M.run (codeA key s) t).1 = (none, partsS s) := by
  rw [hE.run, say_code h h4]
/-! ### What a reader tells -/
/-- Nothing but 0, to be told. -/
def zeroS : SqS := ⟨0, 0, [0, 0, 0, 0], 0, 0, zerosL 64, [zerosL 16, zerosL 16, zerosL 16, zerosL 16]⟩
/-- What is told may be written; or a level is out of bounds. -/
def GoodS (key : Bool) (r : R20) : Prop := (r.1 = none ∧ RightS key r.2 ∧ partsS r.2 = r.2 ∧ Four r.2) ∨ ∃ i, r.1 = some i ∧ (0 ≤ r.2.kind ∧ r.2.kind ≤ 3)
theorem all_onesQ (f : Nat → Nat) (v : Int) : ∀ k n, (onesA f v k n).All fun m => m ≤ n + k := by
  intro k
  induction k with
  | zero => intro n; show n ≤ n + 0; omega
  | succ k ih =>
    intro n b
    cases b
    · show n ≤ n + (k + 1); omega
    · exact (ih (n + 1)).mono (fun a ha => by omega)
theorem all_mode (m : Int) : (modeA m).All fun v => 0 ≤ v ∧ v ≤ 3 := by
  intro a b
  show (0 : Int) ≤ (if a then 2 else 0) + (if b then 1 else 0) ∧ ((if a then 2 else 0) + (if b then 1 else 0) : Int) ≤ 3
  cases a <;> cases b <;> decide
theorem all_part (v : Int) : (partA v).All fun v => -15 ≤ v ∧ v ≤ 15 := by
  intro a
  cases a
  · show (-15 : Int) ≤ 0 ∧ (0 : Int) ≤ 15; omega
  · intro d
    refine All.bind (all_onesQ _ _ 14 0) fun n hn => ?_
    show (-15 : Int) ≤ (if d then -(n : Int) - 1 else (n : Int) + 1) ∧ (if d then -(n : Int) - 1 else (n : Int) + 1) ≤ 15
    cases d <;> simp <;> omega
theorem sqok_in {l : List Int} (h : ∀ v ∈ l, -16320 ≤ v ∧ v ≤ 16320) : l.any lvOut = false := by
  rw [Bool.eq_false_iff]
  intro h2
  obtain ⟨v, hv, hp⟩ := List.any_eq_true.1 h2
  have := h v hv
  rw [lvOut_true (by omega) (by omega)] at hp
  exact Bool.noConfusion hp
def SmOk (n : Nat) (r : Option Nat × List Int × List (List Int)) : Prop :=
  (r.1 = none ∧ r.2.1.length = n ∧ r.2.2.length = n ∧ (∀ m ∈ r.2.1, 0 ≤ m ∧ m ≤ 3) ∧ ∀ l ∈ r.2.2, l.length = 16 ∧ l.any lvOut = false) ∨ ∃ i, r.1 = some i
theorem all_smalls : ∀ (r : List (Int × List Int)) (a : List Int) (b : List (List Int)), a.length = b.length → (∀ m ∈ a, 0 ≤ m ∧ m ≤ 3) → (∀ l ∈ b, l.length = 16 ∧ l.any lvOut = false) → (∀ p ∈ r, p.2.length = 16) → (smallsA r a b).All (SmOk (a.length + r.length))
  | [], a, b, hab, ha, hb, _ => .inl ⟨rfl, rfl, hab.symm, ha, hb⟩
  | (m, l) :: r, a, b, hab, ha, hb, hr => All.bind (all_mode m) fun m' hm => All.bind (all_square 14 (ordOf 4) l (by rw [ord_len4, hr (m, l) (by simp)])) fun q hq => by
    rcases q with ⟨o, q⟩
    rcases hq with ⟨h1, h2, h3⟩ | ⟨i, h1, _, _⟩
    · dsimp only at h1 h2 h3
      subst h1
      have h := all_smalls r (a ++ [m']) (b ++ [q]) (by simp [hab]) (fun x hx => by
        rcases List.mem_append.1 hx with hx | hx
        · exact ha x hx
        · rw [List.mem_singleton.1 hx]; exact hm) (fun x hx => by
        rcases List.mem_append.1 hx with hx | hx
        · exact hb x hx
        · rw [List.mem_singleton.1 hx]; exact ⟨by rw [h2, hr (m, l) (by simp)], sqok_in h3⟩) (fun p hp => hr p (by simp [hp]))
      rw [List.length_append, List.length_singleton] at h
      rw [List.length_cons, show a.length + (r.length + 1) = a.length + 1 + r.length by omega]
      exact h
    · dsimp only at h1
      subst h1
      exact .inr ⟨i, rfl⟩
theorem all_large (l : List Int) (h : l.length = 64) : (largeA l).All (SqOk 64) := by
  have := all_square 39 (ordOf 8) l (by rw [ord_len8, h])
  rw [h] at this
  exact this
theorem all_rest (key : Bool) (k : Int) (hk : (k = 0 ∨ k = 1 ∨ k = 2 ∨ k = 3) ∧ (key = true → 2 ≤ k)) (s : SqS) (hs : s.large.length = 64) (h4 : Four s) (hsm : ∀ l ∈ s.small, l.length = 16) : (restA k s).All (GoodS key) := by
  obtain ⟨hk, hkey⟩ := hk
  unfold restA restG
  split
  · rename_i e
    have h := all_smalls (s.modes.zip s.small) [] [] rfl (fun _ h => by cases h) (fun _ h => by cases h) (fun p hp => hsm _ (List.of_mem_zip hp).2)
    refine All.bind h fun r hr => ?_
    rcases hr with ⟨h1, h2, h3, h5, h6⟩ | ⟨i, h1⟩
    · have hz : (s.modes.zip s.small).length = 4 := by rw [List.length_zip, h4.1, h4.2]; rfl
      rw [hz] at h2 h3
      refine .inl ⟨h1, ⟨by show (0 : Int) ≤ 3; omega, by show (3 : Int) ≤ 3; omega, fun _ => by show (2 : Int) ≤ 3; omega, fun e => ?_, fun e => ?_, fun _ => ⟨h5, h6⟩, fun e => ?_⟩, rfl, h2, h3⟩
      · exact absurd e (by show ¬ (3 : Int) = 1; omega)
      · exact absurd e (by show ¬ (3 : Int) = 2; omega)
      · exact absurd e (by show ¬ ((3 : Int) = 1 ∨ (3 : Int) = 2); omega)
    · exact .inr ⟨i, h1, by show (0 : Int) ≤ 3; omega, by show (3 : Int) ≤ 3; omega⟩
  · split
    · rename_i e
      refine .inl ⟨rfl, ⟨by show (0 : Int) ≤ 0; omega, by show (0 : Int) ≤ 3; omega, fun e2 => by have := hkey e2; omega, fun e => ?_, fun e => ?_, fun e => ?_, fun e => ?_⟩, rfl, rfl, rfl⟩
      · exact absurd e (by show ¬ (0 : Int) = 1; omega)
      · exact absurd e (by show ¬ (0 : Int) = 2; omega)
      · exact absurd e (by show ¬ (0 : Int) = 3; omega)
      · exact absurd e (by show ¬ ((0 : Int) = 1 ∨ (0 : Int) = 2); omega)
    · split
      · rename_i e
        refine All.bind (all_part s.x) fun x hx => All.bind (all_part s.y) fun y hy => All.bind (all_large _ hs) fun q hq => ?_
        rcases hq with ⟨h1, h2, h3⟩ | ⟨i, h1, _, _⟩
        · refine .inl ⟨h1, ⟨by show (0 : Int) ≤ 1; omega, by show (1 : Int) ≤ 3; omega, fun e2 => by have := hkey e2; omega, fun _ => ⟨hx, hy⟩, fun e => ?_, fun e => ?_, fun _ => ⟨h2, sqok_in h3⟩⟩, rfl, rfl, rfl⟩
          · exact absurd e (by show ¬ (1 : Int) = 2; omega)
          · exact absurd e (by show ¬ (1 : Int) = 3; omega)
        · exact .inr ⟨i, h1, by show (0 : Int) ≤ 1; omega, by show (1 : Int) ≤ 3; omega⟩
      · obtain rfl : k = 2 := by omega
        refine All.bind (all_mode s.mode) fun x hx => All.bind (all_large _ hs) fun q hq => ?_
        rcases hq with ⟨h1, h2, h3⟩ | ⟨i, h1, _, _⟩
        · refine .inl ⟨h1, ⟨by show (0 : Int) ≤ 2; omega, by show (2 : Int) ≤ 3; omega, fun _ => by show (2 : Int) ≤ 2; omega, fun e => ?_, fun _ => hx, fun e => ?_, fun _ => ⟨h2, sqok_in h3⟩⟩, rfl, rfl, rfl⟩
          · exact absurd e (by show ¬ (2 : Int) = 1; omega)
          · exact absurd e (by show ¬ (2 : Int) = 3; omega)
        · exact .inr ⟨i, h1, by show (0 : Int) ≤ 2; omega, by show (2 : Int) ≤ 3; omega⟩
theorem all_code (key : Bool) : (codeA key zeroS).All (GoodS key) :=
  All.bind (all_head key 0) fun k hk => all_rest key k hk zeroS (by decide +kernel) ⟨rfl, rfl⟩ (by decide +kernel)
/-! ### There and back -/
/-- The lists that a kind has not: of the lengths that a reader has. -/
def fixS (s : SqS) : SqS := { s with large := if s.kind = 1 ∨ s.kind = 2 then s.large else zerosL 64, small := if s.kind = 3 then s.small else [zerosL 16, zerosL 16, zerosL 16, zerosL 16] }
theorem fix_run {M : Mach σ} (hE : Echo M) {key : Bool} {s : SqS} (h : RightS key s) (t : σ) : M.run (codeA key (fixS s)) t = M.run (codeA key s) t := by
  show M.run ((headA key s.kind).bind fun k => restA k (fixS s)) t = M.run ((headA key s.kind).bind fun k => restA k s) t
  rw [run_bind, run_bind, hE.run, say_head h.k0 h.k3 h.key]
  have hk0 := h.k0
  have hk3 := h.k3
  unfold restA restG
  by_cases e3 : s.kind = 3
  · rw [if_pos e3, if_pos e3]
    have : (fixS s).small = s.small := if_pos e3
    rw [this]
    rfl
  · rw [if_neg e3, if_neg e3]
    by_cases e0 : s.kind = 0
    · rw [if_pos e0, if_pos e0]
    · have : (fixS s).large = s.large := if_pos (by omega)
      rw [this]
      rfl
theorem fix_shape {key : Bool} {s : SqS} (h : RightS key s) (h4 : Four s) : (codeA key (fixS s)).Shape (codeA key zeroS) := by
  have hk0 := h.k0
  have hk3 := h.k3
  have hl : (fixS s).large.length = 64 := by
    show (if s.kind = 1 ∨ s.kind = 2 then s.large else zerosL 64).length = 64
    split
    · rename_i e; exact (h.large e).1
    · decide +kernel
  have hsm : (∀ l ∈ (fixS s).small, l.length = 16) ∧ (fixS s).small.length = 4 := by
    show (∀ l ∈ (if s.kind = 3 then s.small else [zerosL 16, zerosL 16, zerosL 16, zerosL 16]), l.length = 16) ∧ (if s.kind = 3 then s.small else [zerosL 16, zerosL 16, zerosL 16, zerosL 16]).length = 4
    split
    · rename_i e; exact ⟨fun l hl => ((h.three e).2 l hl).1, h4.2⟩
    · exact ⟨by decide +kernel, rfl⟩
  have hsh : ∀ k, (k = 0 ∨ k = 1 ∨ k = 2 ∨ k = 3) → (restA k (fixS s)).Shape (restA k zeroS) := fun k hk => shape_rest k _ _ (fun _ => by
    obtain ⟨hs1, hs2⟩ := hsm
    have hm : (fixS s).modes.length = 4 := h4.1
    generalize (fixS s).small = sm at *
    generalize (fixS s).modes = mm at *
    match mm, sm, hm, hs2 with
    | [_, _, _, _], [l0, l1, l2, l3], _, _ =>
      have q : (zerosL 16).length = 16 := by decide +kernel
      exact ⟨(hs1 l0 (by simp)).trans q.symm, (hs1 l1 (by simp)).trans q.symm, (hs1 l2 (by simp)).trans q.symm, (hs1 l3 (by simp)).trans q.symm, trivial⟩) (fun _ => hl.trans (by decide +kernel)) hk
  unfold codeA codeG
  cases key
  · show ((kindA _).bind _).Shape ((kindA _).bind _)
    have hb : ∀ {α β : Type} {P : α → Prop} {p p' : Ask α} {f f' : α → Ask β}, p.Shape p' → p.All P → (∀ a, P a → (f a).Shape (f' a)) → (p.bind f).Shape (p'.bind f') := by
      intro α β P p
      induction p with
      | ret a =>
        intro p' f f' h hp hf
        cases p' with
        | ret a' => have e : a = a' := h; subst e; exact hf a hp
        | bit c u k => exact absurd h (fun h => h)
        | flat u k => exact absurd h (fun h => h)
      | bit c u k ih =>
        intro p' f f' h hp hf
        cases p' with
        | ret a' => exact absurd h (fun h => h)
        | bit c' u' k' => exact ⟨h.1, fun b => ih b (h.2 b) (hp b) hf⟩
        | flat u' k' => exact absurd h (fun h => h)
      | flat u k ih =>
        intro p' f f' h hp hf
        cases p' with
        | ret a' => exact absurd h (fun h => h)
        | bit c' u' k' => exact absurd h (fun h => h)
        | flat u' k' => exact fun b => ih b (h b) (hp b) hf
    exact hb (shape_kind _ _) (all_kind _) hsh
  · intro b
    cases b
    · exact hsh 2 (by omega)
    · exact hsh 3 (by omega)
theorem ctx_code' (key : Bool) (s : SqS) : (codeA key s).Ctx := ctx_code key s
/-- The writer behind these squares. -/
def sqW (D : List (Bool × SqS)) : Wr := D.foldl (fun s q => (wrM.run (codeA q.1 (fixS q.2)) s).2) Wr.new
end Go.Proofs.YtkkgpdejmcpcpaaGreatDoor

/- Chapter 20: what a writer is asked first: mode, part, bounds, levels, check. -/
namespace Go.Proofs.YtkkgpdejmcpcpaaGreatDoor
open Go.RowKit

/-- A square as a value. -/
def sqV (k mode : Int) (m0 m1 m2 m3 x y : Int) (lv v0 v1 v2 v3 : Value) : Value :=
  .agg #[.int .i64 k, .int .i64 mode, .int .i64 m0, .int .i64 m1, .int .i64 m2, .int .i64 m3, .int .i64 x, .int .i64 y, lv, v0, v1, v2, v3]
theorem mode_tell (v : Int) (w : World) : Calls Tryz.prog 77 #[.int .i64 v] w fun e w' => e = .returned (.bool (inMode v)) ∧ w' = w := by
  have HL := hid (show inMode v = (decide (0 ≤ v) && decide (v ≤ 3)) from rfl)
  have h1 : decide (0 ≤ v) = true ∨ decide (0 ≤ v) = false := by cases decide (0 ≤ v) <;> simp
  rcases h1 with h1 | h1
  all_goals
    rw [h1] at HL
    go_enter Tryz.func77, Tryz.ntmps77
    go_wp2_with fail
    go_ret
    rw [HL.out]
    exact ⟨rfl, rfl⟩
theorem part_tell (v : Int) (w : World) : Calls Tryz.prog 76 #[.int .i64 v] w fun e w' => e = .returned (.bool (inPart v)) ∧ w' = w := by
  have HL := hid (show inPart v = (decide (-15 ≤ v) && decide (v ≤ 15)) from rfl)
  have h1 : decide (-15 ≤ v) = true ∨ decide (-15 ≤ v) = false := by cases decide (-15 ≤ v) <;> simp
  rcases h1 with h1 | h1
  all_goals
    rw [h1] at HL
    go_enter Tryz.func76, Tryz.ntmps76
    go_wp2_with fail
    go_ret
    rw [HL.out]
    exact ⟨rfl, rfl⟩
set_option maxRecDepth 100000 in
theorem tells_mode : Tells 79 (fun v => !inMode v) where
  call := fun _ _ => by kernel_rfl
  ans := by
    intro v w
    go_enter Tryz.func79, Tryz.ntmps79
    go_wp2_with (go_at_call 77; refine (mode_tell _ _).mono ?_; rintro e w2 ⟨rfl, rfl⟩)
    go_ret
    exact ⟨rfl, rfl⟩
set_option maxRecDepth 100000 in
theorem levels_any (x : Value) (l : List Int) (n : Nat) (z : Int) (hz : z = (n : Int)) (w : World) (hx : Nums w x l) (hn : n = 16 ∨ n = 64) :
    Calls Tryz.prog 56 #[x, .int .i64 z] w fun e w' => e = .returned (codeV (levelsNo l n)) ∧ w' = w := by
  obtain ⟨A, c, rfl, _⟩ := hx.form
  subst hz
  by_cases h : l.length = n
  · subst h
    have H := hid (check_any _ l w hx (by omega))
    have e1 : levelsNo l l.length = checkNo l := by
      unfold levelsNo checkNo
      rw [if_neg (c := l.length ≠ l.length) (fun k => k rfl), if_neg (c := l.length ≠ 16 ∧ l.length ≠ 64) (by omega)]
    rw [e1]
    have hd : ((l.length : Int) != (l.length : Int)) = false := by simp
    clear hx e1
    go_enter Tryz.func56, Tryz.ntmps56
    go_wp2_with fail
    refine H.out.mono ?_
    rintro e w2 ⟨rfl, rfl⟩
    go_wp2_with fail
    go_ret
    exact ⟨rfl, rfl⟩
  · have e1 : levelsNo l n = 14 := by unfold levelsNo; rw [if_pos h]
    rw [e1]
    have hd : ((l.length : Int) != (n : Int)) = true := by simp; omega
    clear hx h e1
    go_enter Tryz.func56, Tryz.ntmps56
    go_wp2_with fail
    go_ret
    exact ⟨rfl, rfl⟩
end Go.Proofs.YtkkgpdejmcpcpaaGreatDoor

