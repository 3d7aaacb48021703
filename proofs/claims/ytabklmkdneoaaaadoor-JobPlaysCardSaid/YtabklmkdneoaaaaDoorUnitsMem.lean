/- Rows of units: their cells, what owns them; a split, plain. -/
import Derived.Test.YtabklmkdneoaaaaDoorUTurned
namespace Go.Proofs.YtabklmkdneoaaaaDoor
open Go.RowKit

abbrev UV := List (UnitS × Value)
def unitCells (ps : UV) : List Value := ps.flatMap fun p => [.int .i64 p.1.kind, p.2, .int .i64 p.1.at_, .int .i64 p.1.end_]
theorem unitCells_append (q r : UV) : unitCells (q ++ r) = unitCells q ++ unitCells r := List.flatMap_append
theorem unitCells_snoc (q : UV) (u : UnitS) (d : Value) : unitCells q ++ [.int .i64 u.kind, d, .int .i64 u.at_, .int .i64 u.end_] = unitCells (q ++ [(u, d)]) := by rw [unitCells_append]; rfl
theorem unitCells_len (q : UV) : (unitCells q).length = q.length * 4 := by
  induction q with
  | nil => rfl
  | cons a q ih => unfold unitCells at *; rw [List.flatMap_cons, List.length_append, ih]; simp; omega
theorem unitCells_at (q : UV) : ∀ (i : Nat) (p : UnitS × Value), q[i]? = some p → (unitCells q)[i * 4]? = some (.int .i64 p.1.kind) ∧ (unitCells q)[i * 4 + 1]? = some p.2 ∧ (unitCells q)[i * 4 + 2]? = some (.int .i64 p.1.at_) ∧ (unitCells q)[i * 4 + 3]? = some (.int .i64 p.1.end_) := by
  induction q with
  | nil => intro i a h; simp at h
  | cons b q ih =>
    intro i a h
    have e : unitCells (b :: q) = .int .i64 b.1.kind :: b.2 :: .int .i64 b.1.at_ :: .int .i64 b.1.end_ :: unitCells q := rfl
    rw [e]
    cases i with
    | zero =>
      simp at h
      subst h
      exact ⟨rfl, rfl, rfl, rfl⟩
    | succ i =>
      have := ih i a (by simpa using h)
      rw [show (i + 1) * 4 = i * 4 + 1 + 1 + 1 + 1 by omega]
      simpa using this
theorem info_unit : (Tryd.prog.info? 35).map (fun i => (i.zero, i.size, i.bytes)) = some (some (.agg #[.int .i64 0, .slice none 0 0, .int .i64 0, .int .i64 0]), 4, 48) := by kernel_rfl
theorem blk_from4 {w : World} {g : Nat} {t : TypeId} {cs : Array Value} {c m : Nat} (h : Blk w g t cs) (hs : cs.size = m * 4) : From w 4 (.slice (some ⟨g, 0, none⟩) m c) m cs.toList := by
  refine ⟨_, _, rfl, by simpa using hs, fun _ => ⟨_, rfl, fun j u hu => ?_⟩⟩
  rw [addr_add, Nat.zero_add, h.cell]
  simpa using hu
theorem own_mono {w : World} {B B' size n : Nat} {t : TypeId} {v : Value} {xs : List Value} (h : w.ownsRow B t size v n xs) (hb : B' ≤ B) : w.ownsRow B' t size v n xs := by
  refine ⟨h.1, ?_⟩
  rcases h.2 with hn | ⟨g, cap, cur, hv', hg0, hr⟩
  · exact .inl hn
  · exact .inr ⟨g, cap, cur, hv', by omega, hr⟩
theorem own_blk {w : World} {B size n g : Nat} {t : TypeId} {v : Value} {xs : List Value} (h : w.ownsRow B t size v n xs) (hv : v.ownBlock = some g) : ∃ cs, Blk w g t cs := by
  rcases h.2 with ⟨rfl, _⟩ | ⟨g0, cap, cur, rfl, _, hg, _⟩
  · simp [Value.ownBlock] at hv
  · simp [Value.ownBlock] at hv
    subst hv
    exact ⟨cur, hg⟩
theorem own_apart {w : World} {B B' s s' n n' g : Nat} {t t' : TypeId} {v v' : Value} {xs xs' : List Value} (h : w.ownsRow B t s v n xs) (h' : w.ownsRow B' t' s' v' n' xs') (hne : t ≠ t') (hv : v.ownBlock = some g) : v'.ownBlock ≠ some g := by
  intro e
  obtain ⟨cs, hc⟩ := own_blk h hv
  obtain ⟨cs', hc'⟩ := own_blk h' e
  exact absurd rfl (hc.apart hc' hne)
theorem own_below {w w' : World} {B size n : Nat} {t : TypeId} {v : Value} {xs : List Value} (h : w.ownsRow B t size v n xs) (hb : Below w.heap.size w w') : w'.ownsRow B t size v n xs :=
  own_keep2 (S := fun _ => False) h ⟨hb.os, hb.tape, hb.output, hb.size, fun k hk _ => hb.block k hk⟩ (fun _ _ h => h)

/-- A row of units of one's own, and the bytes of each. -/
structure OwnUnits (w : World) (B : Nat) (lv : Value) (ps : UV) : Prop where
  row : w.ownsRow B 35 4 lv ps.length (unitCells ps)
  data : ∀ p ∈ ps, w.ownsRow B 5 1 p.2 p.1.data.length (p.1.data.map byteV)
theorem OwnUnits.nil (w : World) (B : Nat) : OwnUnits w B (.slice none 0 0) [] := ⟨World.ownsRow_nil _ _ _ _, fun p hp => by cases hp⟩
theorem OwnUnits.below {w w' : World} {B : Nat} {lv : Value} {ps : UV} (h : OwnUnits w B lv ps) (hb : Below w.heap.size w w') : OwnUnits w' B lv ps :=
  ⟨own_below h.row hb, fun p hp => own_below (h.data p hp) hb⟩
theorem OwnUnits.push {w w' : World} {B : Nat} {lv v' : Value} {ps : UV} {u : UnitS} {d : Value} (h : OwnUnits w B lv ps) (hd : w.ownsRow B 5 1 d u.data.length (u.data.map byteV)) (hr : w'.ownsRow B 35 4 v' (ps.length + 1) (unitCells (ps ++ [(u, d)]))) (hg : w.grownBy w' lv.ownBlock) : OwnUnits w' B v' (ps ++ [(u, d)]) := by
  have ho : Only (fun k => lv.ownBlock = some k) w w' := ⟨hg.os, hg.tape, hg.output, hg.size, fun k hk hn => hg.block k hk (fun e => hn e.symm)⟩
  refine ⟨by simpa using hr, fun p hp => ?_⟩
  rcases List.mem_append.1 hp with hp | hp
  · exact own_keep2 (h.data p hp) ho (fun k hk e => own_apart h.row (h.data p hp) (by decide) e hk)
  · obtain rfl : p = (u, d) := by simpa using hp
    exact own_keep2 hd ho (fun k hk e => own_apart h.row hd (by decide) e hk)

/-! ### A split -/
def splitU (bs : List UInt8) : Nat → Nat → List UnitS × Option (PathS × Int)
  | 0, _ => ([], none)
  | k + 1, n => if n < bs.length then
      match nextU bs n with
      | .no q c => ([], some (q, c))
      | .ok u => (u :: (splitU bs k u.end_).1, (splitU bs k u.end_).2)
    else ([], none)
def unitsOf (bs : List UInt8) : List UnitS × Option (PathS × Int) := splitU bs bs.length 0
theorem splitU_done {bs : List UInt8} {k n : Nat} (h : bs.length ≤ n) : splitU bs k n = ([], none) := by
  cases k with
  | zero => rfl
  | succ k => unfold splitU; rw [if_neg (by omega)]
theorem splitU_no {bs : List UInt8} {k n : Nat} {q : PathS} {c : Int} (h : n < bs.length) (hN : nextU bs n = .no q c) : splitU bs (k + 1) n = ([], some (q, c)) := by
  rw [splitU, if_pos h, hN]
theorem splitU_ok {bs : List UInt8} {k n : Nat} {u : UnitS} (h : n < bs.length) (hN : nextU bs n = .ok u) : splitU bs (k + 1) n = (u :: (splitU bs k u.end_).1, (splitU bs k u.end_).2) := by
  rw [splitU, if_pos h, hN]
theorem nextU_grows {bs : List UInt8} {n : Nat} {u : UnitS} (h : nextU bs n = .ok u) : n + 1 ≤ u.end_ ∧ u.at_ = n := by
  unfold nextU at h
  split at h
  · cases h
  · split at h
    · cases h
    · injection h with h; subst h; simp
    · injection h with h; subst h; simp; omega
/-- How far a split has come. -/
structure SplitAt (bs : List UInt8) (k n : Nat) (us : List UnitS) : Prop where
  len : us.length ≤ n
  fuel : bs.length ≤ n + k
  all : unitsOf bs = (us ++ (splitU bs k n).1, (splitU bs k n).2)
theorem SplitAt.start (bs : List UInt8) : SplitAt bs bs.length 0 [] := ⟨by simp, by omega, rfl⟩
theorem SplitAt.done {bs : List UInt8} {k n : Nat} {us : List UnitS} (h : SplitAt bs k n us) (hn : bs.length ≤ n) : unitsOf bs = (us, none) := by
  rw [h.all, splitU_done hn]; simp
theorem SplitAt.no {bs : List UInt8} {k n : Nat} {us : List UnitS} {q : PathS} {c : Int} (h : SplitAt bs k n us) (hn : n < bs.length) (hN : nextU bs n = .no q c) : unitsOf bs = (us, some (q, c)) := by
  have hf := h.fuel
  obtain ⟨m, rfl⟩ : ∃ m, k = m + 1 := ⟨k - 1, by omega⟩
  rw [h.all, splitU_no hn hN]; simp
theorem SplitAt.ok {bs : List UInt8} {k n : Nat} {us : List UnitS} {u : UnitS} (h : SplitAt bs k n us) (hn : n < bs.length) (hN : nextU bs n = .ok u) : 0 < k ∧ SplitAt bs (k - 1) u.end_ (us ++ [u]) := by
  have hf := h.fuel
  obtain ⟨m, rfl⟩ : ∃ m, k = m + 1 := ⟨k - 1, by omega⟩
  obtain ⟨h1, _⟩ := nextU_grows hN
  refine ⟨by omega, by have := h.len; simp; omega, by simp; omega, ?_⟩
  rw [h.all, splitU_ok hn hN]
  simp
end Go.Proofs.YtabklmkdneoaaaaDoor
