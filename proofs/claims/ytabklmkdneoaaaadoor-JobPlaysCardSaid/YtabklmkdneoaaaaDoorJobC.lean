/- Chapter 27: jobs: the plain words, the map, the small walks. -/
import Derived.Test.YtabklmkdneoaaaaDoorGD
import Derived.Maps.OwnSet
import Derived.Maps.OwnOps
import Derived.BigQuiet
import Derived.Deep.RegionHeld3
/- Chapter 27, plain: jobs. -/
namespace Go.Proofs.YtabklmkdneoaaaaDoor

/-- A job: the records of its chunks by their numbers. -/
structure JobS where
  st : Int
  sm : Int
  ch : Int
  cd : Int
  d : List (Option RecS)
  e : RecS
def noD : List (Option RecS) := List.replicate 16 none
def jobZ : JobS := ⟨0, 0, 0, 0, noD, recZ⟩
def cntD (d : List (Option RecS)) : Nat := (d.filter Option.isSome).length
def dAt (d : List (Option RecS)) (n : Int) : Option RecS := if 0 ≤ n then (d[n.toNat]?).join else none
def runNo (s : JobS) (r : RecS) : Int :=
  if r.kind = 49 then (if s.ch ≤ r.num then 3 else 0)
  else if r.kind = 50 then (if 0 < s.ch then 14 else 0)
  else if s.ch = 0 ∨ (cntD s.d : Int) < s.ch then 14 else 0
def runJ (s : JobS) (r : RecS) : JobS :=
  if runNo s r ≠ 0 then s
  else if r.kind = 49 then { s with d := s.d.set r.num.toNat (some r) }
  else if r.kind = 50 then { s with st := 2, cd := r.code }
  else { s with st := 3, e := r }
def applyNo (s : JobS) (r : RecS) : Int :=
  if mayR r = false then 2 else if s.st = 0 ∧ r.kind = 48 then 0 else if s.st ≠ 1 ∨ r.kind = 48 then 12 else runNo s r
def applyJ (s : JobS) (r : RecS) : JobS :=
  if mayR r = false then s else if s.st = 0 ∧ r.kind = 48 then { s with st := 1, sm := r.sum, ch := r.num } else if s.st ≠ 1 ∨ r.kind = 48 then s else runJ s r
def forgetJ (s : JobS) (n : Int) : JobS := if s.st = 1 ∧ 0 ≤ n then { s with d := s.d.set n.toNat none } else s
def missD (s : JobS) : List Nat := (List.range s.ch.toNat).filter fun i => (dAt s.d (i : Int)).isNone
/-- A job that may be. -/
structure JI (s : JobS) : Prop where
  len : s.d.length = 16
  st0 : 0 ≤ s.st
  st1 : s.st ≤ 3
  ch0 : 0 ≤ s.ch
  ch1 : s.ch ≤ 16
  in_ : ∀ i : Nat, (s.d[i]?).join ≠ none → (i : Int) < s.ch
theorem cnt_replicate (n : Nat) : cntD (List.replicate n none) = 0 := by
  unfold cntD
  rw [List.filter_replicate]
  simp
theorem JI.zero : JI jobZ := ⟨rfl, by decide, by decide, by decide, by decide, fun i h => by
  exfalso
  apply h
  show ((List.replicate 16 (none : Option RecS))[i]?).join = none
  rw [List.getElem?_replicate]
  split <;> rfl⟩
theorem dAt_nat (d : List (Option RecS)) (n : Nat) : dAt d (n : Int) = (d[n]?).join := by unfold dAt; rw [if_pos (by omega)]; rfl
theorem dAt_neg (d : List (Option RecS)) (n : Int) (h : n < 0) : dAt d n = none := by unfold dAt; rw [if_neg (by omega)]
theorem dAt_far (d : List (Option RecS)) (n : Int) (h : (d.length : Int) ≤ n) : dAt d n = none := by
  obtain ⟨m, rfl⟩ := Int.eq_ofNat_of_zero_le (show 0 ≤ n by omega)
  rw [dAt_nat, List.getElem?_eq_none (by omega)]
  rfl
theorem dAt_set_same (d : List (Option RecS)) (n : Nat) (o : Option RecS) (h : n < d.length) : dAt (d.set n o) (n : Int) = o := by
  rw [dAt_nat, List.getElem?_set_self h]
  rfl
theorem dAt_set_other (d : List (Option RecS)) (n : Nat) (o : Option RecS) (m : Int) (h : m ≠ n) : dAt (d.set n o) m = dAt d m := by
  rcases Int.lt_or_le m 0 with h1 | h1
  · rw [dAt_neg _ _ h1, dAt_neg _ _ h1]
  · obtain ⟨k, rfl⟩ := Int.eq_ofNat_of_zero_le h1
    rw [dAt_nat, dAt_nat, List.getElem?_set_ne (by omega)]
theorem cnt_cons (o : Option RecS) (d : List (Option RecS)) : cntD (o :: d) = (if o.isSome then 1 else 0) + cntD d := by
  unfold cntD
  rw [List.filter_cons]
  split <;> simp <;> omega
theorem cnt_set (d : List (Option RecS)) : ∀ (n : Nat) (o : Option RecS), n < d.length → cntD (d.set n o) + (if (dAt d (n : Int)).isSome then 1 else 0) = cntD d + (if o.isSome then 1 else 0) := by
  induction d with
  | nil => intro n o h; simp at h
  | cons a d ih =>
    intro n o h
    cases n with
    | zero =>
      rw [List.set_cons_zero, cnt_cons, cnt_cons, dAt_nat]
      show _ + (if a.isSome then 1 else 0) = _
      omega
    | succ n =>
      rw [List.set_cons_succ, cnt_cons, cnt_cons]
      have h1 := ih n o (by simpa using h)
      have e : dAt (a :: d) ((n + 1 : Nat) : Int) = dAt d (n : Int) := by rw [dAt_nat, dAt_nat]; rfl
      rw [e]
      omega
theorem cnt_le (d : List (Option RecS)) : cntD d ≤ d.length := List.length_filter_le _ _
/-- All of the first c are there just if as many are there. -/
theorem cnt_take (d : List (Option RecS)) : ∀ (c : Nat), c ≤ d.length → (∀ i : Nat, (d[i]?).join ≠ none → i < c) → cntD d ≤ c ∧ (cntD d = c ↔ ∀ i : Nat, i < c → (dAt d (i : Int)).isSome = true) := by
  induction d with
  | nil => intro c h _; have : c = 0 := by simpa using h
           subst this; exact ⟨Nat.le_refl _, fun _ i hi => by omega, fun _ => rfl⟩
  | cons a d ih =>
    intro c h hin
    cases c with
    | zero =>
      have ha : a = none := by
        cases a with
        | none => rfl
        | some r => exact absurd (hin 0 (by simp)) (by omega)
      obtain ⟨h1, h2⟩ := ih 0 (by omega) (fun i hi => by have := hin (i + 1) (by simpa using hi); omega)
      rw [cnt_cons, ha]
      refine ⟨by simpa using h1, fun _ i hi => by omega, fun _ => by simp; omega⟩
    | succ c =>
      obtain ⟨h1, h2⟩ := ih c (by simpa using h) (fun i hi => by have := hin (i + 1) (by simpa using hi); omega)
      rw [cnt_cons]
      have e : ∀ n : Nat, dAt (a :: d) ((n + 1 : Nat) : Int) = dAt d (n : Int) := fun n => by rw [dAt_nat, dAt_nat]; rfl
      have e0 : dAt (a :: d) ((0 : Nat) : Int) = a := by rw [dAt_nat]; rfl
      refine ⟨by split <;> omega, fun hc i hi => ?_, fun hall => ?_⟩
      · cases ha : a.isSome
        · rw [ha] at hc; simp at hc; omega
        · rw [ha] at hc
          cases i with
          | zero => rw [e0]; exact ha
          | succ i => rw [e]; exact (h2.1 (by simp at hc; omega)) i (by omega)
      · have ha := hall 0 (by omega)
        rw [e0] at ha
        rw [ha]
        have := h2.2 fun i hi => by have := hall (i + 1) (by omega); rw [e] at this; exact this
        simp
        omega
theorem JI.cnt {s : JobS} (h : JI s) : (cntD s.d : Int) ≤ s.ch ∧ ((cntD s.d : Int) = s.ch ↔ ∀ i : Nat, (i : Int) < s.ch → (dAt s.d (i : Int)).isSome = true) := by
  have h1 := h.len; have h2 := h.ch0; have h3 := h.ch1
  obtain ⟨c, hc⟩ := Int.eq_ofNat_of_zero_le h2
  have hin : ∀ i : Nat, (s.d[i]?).join ≠ none → i < c := fun i hi => by have := h.in_ i hi; omega
  obtain ⟨k1, k2⟩ := cnt_take s.d c (by omega) hin
  rw [hc]
  refine ⟨by omega, fun h => ?_, fun h => ?_⟩
  · intro i hi; exact k2.1 (by omega) i (by omega)
  · have := k2.2 (fun i hi => h i (by omega)); omega
theorem may_bounds {r : RecS} (h : mayR r = true) : (r.kind = 48 ∨ r.kind = 49 ∨ r.kind = 50 ∨ r.kind = 51) ∧ 0 ≤ r.num ∧ r.num ≤ 16 ∧ (r.kind = 49 → r.num ≤ 15) := by
  obtain ⟨k, s, n, l, c, rfl, hk, _, hn, _, _, _⟩ := may_nat h
  refine ⟨by rcases hk with rfl | rfl | rfl | rfl <;> simp, by show (0 : Int) ≤ (n : Int); omega, by show (n : Int) ≤ 16; omega, fun h49 => ?_⟩
  have h49' : (k : Int) = 49 := h49
  unfold mayR at h
  rw [if_neg (by omega), if_pos h49'] at h
  simp at h
  show (n : Int) ≤ 15
  omega
theorem JI.set {s : JobS} (h : JI s) (n : Nat) (o : Option RecS) (hn : o ≠ none → (n : Int) < s.ch) : JI { s with d := s.d.set n o } := by
  refine ⟨by rw [List.length_set]; exact h.len, h.st0, h.st1, h.ch0, h.ch1, fun i hi => ?_⟩
  have hi' : ((s.d.set n o)[i]?).join ≠ none := hi
  rw [List.getElem?_set] at hi'
  split at hi'
  · rename_i e
    subst e
    split at hi'
    · exact hn (fun e => hi' (by rw [e]; rfl))
    · exact absurd rfl hi'
  · exact h.in_ i hi'
theorem JI.runJ {s : JobS} (h : JI s) {r : RecS} (hm : mayR r = true) : JI (runJ s r) := by
  obtain ⟨_, h0, _, _⟩ := may_bounds hm
  unfold Go.Proofs.YtabklmkdneoaaaaDoor.runJ
  split
  · exact h
  · rename_i hno
    have hno' : runNo s r = 0 := by simpa using hno
    split
    · rename_i hk
      unfold runNo at hno'
      rw [if_pos hk] at hno'
      refine h.set _ _ fun _ => ?_
      split at hno'
      · omega
      · omega
    · split
      · exact ⟨h.len, by show (0 : Int) ≤ 2; omega, by show (2 : Int) ≤ 3; omega, h.ch0, h.ch1, h.in_⟩
      · exact ⟨h.len, by show (0 : Int) ≤ 3; omega, by show (3 : Int) ≤ 3; omega, h.ch0, h.ch1, h.in_⟩
/-- A fresh job has no chunk. -/
structure JF (s : JobS) : Prop extends JI s where
  fresh : s.st = 0 → ∀ i : Nat, (s.d[i]?).join = none
theorem JF.zero : JF jobZ := ⟨JI.zero, fun _ i => by
  show ((List.replicate 16 (none : Option RecS))[i]?).join = none
  rw [List.getElem?_replicate]
  split <;> rfl⟩
theorem JF.apply {s : JobS} (h : JF s) (r : RecS) : JF (applyJ s r) := by
  unfold applyJ
  split
  · exact h
  · rename_i hm
    have hm' : mayR r = true := by simpa using hm
    obtain ⟨_, h0, h16, _⟩ := may_bounds hm'
    split
    · rename_i hk
      exact ⟨⟨h.len, by show (0 : Int) ≤ 1; omega, by show (1 : Int) ≤ 3; omega, h0, h16, fun i hi => absurd (h.fresh hk.1 i) hi⟩, fun h1 => absurd h1 (by show ¬ (1 : Int) = 0; omega)⟩
    · split
      · exact h
      · rename_i hk hs
        have hst : s.st = 1 := by omega
        refine ⟨h.toJI.runJ hm', fun h1 => ?_⟩
        exfalso
        revert h1
        unfold runJ
        split
        · intro h1; omega
        · split
          · intro h1; have h1' : s.st = 0 := h1; omega
          · split
            · intro h1; have h1' : (2 : Int) = 0 := h1; omega
            · intro h1; have h1' : (3 : Int) = 0 := h1; omega
theorem JF.forget {s : JobS} (h : JF s) (n : Int) : JF (forgetJ s n) := by
  unfold forgetJ
  split
  · rename_i hk
    exact ⟨h.toJI.set _ _ (fun e => absurd rfl e), fun h1 => by have h1' : s.st = 0 := h1; omega⟩
  · exact h
theorem apply_refused {s : JobS} {r : RecS} (h : applyNo s r ≠ 0) : applyJ s r = s := by
  unfold applyNo at h
  unfold applyJ
  split
  · rfl
  · rename_i hm
    rw [if_neg hm] at h
    split
    · rename_i hk
      rw [if_pos hk] at h
      exact absurd rfl h
    · rename_i hk
      rw [if_neg hk] at h
      split
      · rfl
      · rename_i hs
        rw [if_neg hs] at h
        unfold runJ
        rw [if_pos h]
/-- Records one behind the other, up to the first that is refused. -/
def replayJ : List RecS → JobS → JobS × Nat
  | [], s => (s, 0)
  | r :: l, s => if applyNo s r ≠ 0 then (s, 0) else ((replayJ l (applyJ s r)).1, (replayJ l (applyJ s r)).2 + 1)
end Go.Proofs.YtabklmkdneoaaaaDoor
/- Chapter 27: the memory of a job: its map. -/
namespace Go.Proofs.YtabklmkdneoaaaaDoor
open Go.RowKit Go.Maps Go.ChangeMaps

/-- A record as a map's element reads. -/
def recD (r : RecS) : DataW Unit := .agg [.lit (.int .i64 r.kind), .lit (.int .i64 r.sum), .lit (.int .i64 r.num), .lit (.int .i64 r.len), .lit (.int .i64 r.code)]
def recElem (v : Value) : Option (DataW Unit × List MemPlace) :=
  match v with
  | .agg cs => match cs.toList with
    | [.int .i64 a, .int .i64 b, .int .i64 c, .int .i64 d, .int .i64 e] => some (recD ⟨a, b, c, d, e⟩, [])
    | _ => none
  | _ => none
theorem recElem_val (r : RecS) : recElem r.val = some (recD r, []) := rfl
theorem recD_inj {r s : RecS} (h : recD r = recD s) : r = s := by
  obtain ⟨a0, a1, a2, a3, a4⟩ := r
  obtain ⟨b0, b1, b2, b3, b4⟩ := s
  unfold recD at h
  simp at h
  obtain ⟨rfl, rfl, rfl, rfl, rfl⟩ := h
  rfl
theorem recElem_inv {v : Value} {r : RecS} {ps : List MemPlace} (h : recElem v = some (recD r, ps)) : v = r.val := by
  unfold recElem at h
  split at h
  · rename_i cs
    split at h
    · rename_i a b c d e hcs
      injection h with h
      injection h with h _
      have := recD_inj h
      subst this
      show Value.agg cs = _
      have e2 : cs = cs.toList.toArray := by simp
      rw [e2, hcs]
      rfl
    · cases h
  · cases h
theorem map_keyed : Keyed Tryd.prog 3 := int_keyed Tryd.underlying3
theorem zero_rec (w : World) : (zeroValue 73).run Tryd.prog w = .ok recZ.val w := by kernel_rfl
/-- Block b is a map of these records by their numbers. -/
def MapAt (w : World) (b : Nat) (d : List (Option RecS)) : Prop :=
  ∃ D : DataW Unit, w.ownsMap Tryd.prog 3 recElem b (Maps.size D) D ∧ Maps.size D = cntD d ∧ ∀ i : Int, Maps.has D (.int .i64 i) = (dAt d i).isSome ∧ ∀ r, dAt d i = some r → ∀ z, D.atKey (.int .i64 i) z = recD r
theorem own_tight {w : World} {b n : Nat} {D : DataW Unit} (h : w.ownsMap Tryd.prog 3 recElem b n D) : w.ownsMap Tryd.prog 3 recElem b (Maps.size D) D := by
  obtain ⟨es, clock, hb, F, hs, rfl⟩ := h
  exact ⟨es, clock, hb, F, by simp [Maps.size, length_sorted], rfl⟩
theorem MapAt.lt {w : World} {b : Nat} {d : List (Option RecS)} (h : MapAt w b d) : b < w.heap.size := by
  obtain ⟨D, h1, _⟩ := h
  exact h1.lt
theorem MapAt.keep {w w' : World} {S : Nat → Prop} {b : Nat} {d : List (Option RecS)} (h : MapAt w b d) (ho : Only S w w') (hb : ¬ S b) : MapAt w' b d := by
  obtain ⟨D, ⟨es, clock, hb', F, hs, hD⟩, h2⟩ := h
  exact ⟨D, ⟨es, clock, (ho.block b (Array.getElem?_eq_some_iff.1 hb').1 hb).trans hb', F, hs, hD⟩, h2⟩
theorem MapAt.below {w w' : World} {b : Nat} {d : List (Option RecS)} (h : MapAt w b d) (ho : Below w.heap.size w w') : MapAt w' b d := h.keep (S := fun _ => False) (Only.of_below ho) (fun h => h)
theorem MapAt.made (w : World) : MapAt (w.alloc (.map #[] 0)) w.heap.size noD := by
  refine ⟨.map [], World.ownsMap_made w _ _ _, by rw [show noD = List.replicate 16 none from rfl, cnt_replicate]; rfl, fun i => ?_⟩
  have e : dAt noD i = none := by
    rcases Int.lt_or_le i 0 with h | h
    · exact dAt_neg _ _ h
    · obtain ⟨k, rfl⟩ := Int.eq_ofNat_of_zero_le h
      rw [dAt_nat]
      show ((List.replicate 16 (none : Option RecS))[k]?).join = none
      rw [List.getElem?_replicate]
      split <;> rfl
  rw [e]
  exact ⟨rfl, fun r h => by cases h⟩
theorem MapAt.look {w : World} {b : Nat} {d : List (Option RecS)} (h : MapAt w b d) (i : Int) (hi : (Lit.int .i64 i).wf = true) :
    (Instr.lookup 139 (.map (some b)) (.int .i64 i) true).run Tryd.prog w = .ok (.tuple #[((dAt d i).getD recZ).val, .bool (dAt d i).isSome]) w := by
  obtain ⟨D, h1, h2, h3⟩ := h
  obtain ⟨hh, hv⟩ := h3 i
  obtain ⟨v, ps, hrun, hR⟩ := h1.look_ok map_keyed Tryd.underlying139 (zero_rec w) (recElem_val recZ) (keyOf_int_mk Tryd.underlying3 hi)
  rw [hrun, hh]
  have e : v = ((dAt d i).getD recZ).val := by
    cases hd : dAt d i with
    | none =>
      rw [hd] at hh
      rw [atKey_of_not_has hh] at hR
      exact recElem_inv hR
    | some r =>
      rw [hv r hd] at hR
      exact recElem_inv hR
  rw [e]
theorem MapAt.len {w : World} {b : Nat} {d : List (Option RecS)} (h : MapAt w b d) (ty : TypeId) : (Builtin.len_ #[139] ty #[.map (some b)]).run Tryd.prog w = .ok (.int .i64 (cntD d)) w := by
  obtain ⟨D, h1, h2, h3⟩ := h
  rw [h1.len Tryd.underlying139 ty, h2]
theorem only_turned {w w' : World} {b : Nat} (h : w.mapTurned w' b) : Only (fun k => k = b) w w' := by
  obtain ⟨es, clock, es', clock', hb, rfl⟩ := h
  exact ⟨rfl, rfl, rfl, by simp [setBlock], fun k _ hk => heap_setBlock_other hb _ hk⟩
theorem wf_nat16 (n : Nat) (h : n < 16) : (Lit.int .i64 (n : Int)).wf = true := WalkArith.wf_i64 (by omega)
set_option maxRecDepth 100000 in
theorem MapAt.put {w : World} {b : Nat} {d : List (Option RecS)} (h : MapAt w b d) (n : Nat) (r : RecS) (hn : n < d.length) (hd : d.length = 16) :
    ∃ w', (Instr.mapUpdate 139 (.map (some b)) (.int .i64 n) r.val).run Tryd.prog w = .ok () w' ∧ MapAt w' b (d.set n (some r)) ∧ Only (fun k => k = b) w w' := by
  obtain ⟨D, h1, h2, h3⟩ := h
  have hkl : WideAt.IsKeyLit (Lit.int .i64 (n : Int)) := by trivial
  obtain ⟨w', hrun, k1, k2⟩ := h1.store map_keyed Tryd.underlying139 (by have := cnt_le d; unfold maxLen; omega) (keyOf_int_mk Tryd.underlying3 (wf_nat16 n (by omega))) (recElem_val r)
  have ht := h1.tidy map_keyed
  refine ⟨w', hrun, ⟨_, own_tight k1, ?_, fun i => ?_⟩, only_turned k2⟩
  · rw [size_put ht, (h3 n).1, h2]
    have := cnt_set d n (some r) hn
    simp only [Option.isSome_some, if_true] at this
    split <;> simp_all <;> omega
  · by_cases e : i = n
    · subst e
      rw [has_put_same ht.isMap hkl, dAt_set_same _ _ _ hn]
      refine ⟨rfl, fun r' hr z => ?_⟩
      have hr' := Option.some.inj hr
      subst hr'
      exact atKey_put_same ht.isMap hkl (recD r) z
    · have hne : Lit.int .i64 i ≠ Lit.int .i64 (n : Int) := fun h => e (by injection h)
      rw [has_put_other hne, dAt_set_other _ _ _ _ e]
      refine ⟨(h3 i).1, fun r' hr z => ?_⟩
      rw [atKey_put_other hne]
      exact (h3 i).2 r' hr z
theorem MapAt.del {w : World} {b : Nat} {d : List (Option RecS)} (h : MapAt w b d) (i : Int) (hi : (Lit.int .i64 i).wf = true) (ty : TypeId) :
    ∃ w', (Builtin.delete_ #[139, 3] ty #[.map (some b), .int .i64 i]).run Tryd.prog w = .ok (.tuple #[]) w' ∧ MapAt w' b (if 0 ≤ i then d.set i.toNat none else d) ∧ Only (fun k => k = b) w w' := by
  obtain ⟨D, h1, h2, h3⟩ := h
  have hkl : WideAt.IsKeyLit (Lit.int .i64 i) := by trivial
  obtain ⟨w', hrun, k1, k2⟩ := h1.drop map_keyed Tryd.underlying139 (keyOf_int_mk Tryd.underlying3 hi) ty
  have ht := h1.tidy map_keyed
  have hat : ∀ m, dAt (if 0 ≤ i then d.set i.toNat none else d) m = if m = i then none else dAt d m := by
    intro m
    rcases Int.lt_or_le i 0 with h0 | h0
    · rw [if_neg (by omega)]
      split
      · rename_i e; rw [e, dAt_neg _ _ h0]
      · rfl
    · obtain ⟨n, rfl⟩ := Int.eq_ofNat_of_zero_le h0
      rw [if_pos h0]
      show dAt (d.set n none) m = _
      split
      · rename_i e
        subst e
        rcases Nat.lt_or_ge n d.length with hn | hn
        · exact dAt_set_same _ _ _ hn
        · rw [List.set_eq_of_length_le hn, dAt_far _ _ (by omega)]
      · rename_i e
        exact dAt_set_other _ _ _ _ e
  refine ⟨w', hrun, ⟨_, own_tight k1, ?_, fun m => ?_⟩, only_turned k2⟩
  · have hs := size_del (k := Lit.int .i64 i) ht
    rw [(h3 i).1, h2] at hs
    rcases Int.lt_or_le i 0 with h0 | h0
    · rw [if_neg (by omega)]
      rw [dAt_neg _ _ h0] at hs
      simpa using hs
    · obtain ⟨n, rfl⟩ := Int.eq_ofNat_of_zero_le h0
      rw [if_pos h0]
      show _ = cntD (d.set n none)
      rcases Nat.lt_or_ge n d.length with hn | hn
      · have := cnt_set d n none hn
        simp only [Option.isSome_none] at this
        split at hs <;> simp_all <;> omega
      · rw [List.set_eq_of_length_le hn]
        rw [dAt_far _ _ (by omega)] at hs
        simpa using hs
  · rw [hat m]
    by_cases e : m = i
    · subst e
      rw [if_pos rfl, has_del_same]
      exact ⟨rfl, fun r h => by cases h⟩
    · have hne : Lit.int .i64 m ≠ Lit.int .i64 i := fun h => e (by injection h)
      rw [if_neg e, has_del_other hne]
      refine ⟨(h3 m).1, fun r' hr z => ?_⟩
      rw [atKey_del_other hne]
      exact (h3 m).2 r' hr z
theorem MapAt.form {w : World} {b : Nat} {d : List (Option RecS)} (h : MapAt w b d) : ∃ es clock, w.heap[b]? = some (.map es clock) ∧ ∀ w2 : World, MapAt (w2.alloc (.map es clock)) w2.heap.size d := by
  obtain ⟨D, ⟨es, clock, hb, F, hs, hD⟩, h2⟩ := h
  exact ⟨es, clock, hb, fun w2 => ⟨D, ⟨es, clock, (MapKept.heap_alloc w2 _).1, F, hs, hD⟩, h2⟩⟩
end Go.Proofs.YtabklmkdneoaaaaDoor
/- Chapter 27: the walks of package job. -/
namespace Go.Proofs.YtabklmkdneoaaaaDoor
open Go.RowKit

def jobCells (mb : Nat) (s : JobS) : Array Value := #[.int .i64 s.st, .int .i64 s.sm, .int .i64 s.ch, .int .i64 s.cd, .map (some mb), .int .i64 s.e.kind, .int .i64 s.e.sum, .int .i64 s.e.num, .int .i64 s.e.len, .int .i64 s.e.code]
/-- Block b is a job whose map is block mb. -/
structure JobAt (b mb : Nat) (s : JobS) (W : World) : Prop where
  blk : Blk W b 141 (jobCells mb s)
  map : MapAt W mb s.d
  ne : ¬ b = mb
def JF2 (b mb : Nat) : Nat → Prop := fun k => k = b ∨ k = mb
section
variable {b mb : Nat} {s : JobS} {W W' : World}
theorem JobAt.keep {S : Nat → Prop} (h : JobAt b mb s W) (ho : Only S W W') (h1 : ¬ S b) (h2 : ¬ S mb) : JobAt b mb s W' := ⟨h.blk.keep ho h1, h.map.keep ho h2, h.ne⟩
theorem JobAt.below (h : JobAt b mb s W) (hb : Below W.heap.size W W') : JobAt b mb s W' := ⟨h.blk.below hb h.blk.lt, h.map.below hb, h.ne⟩
theorem JobAt.cells (h : JobAt b mb s W) : W.cell? ⟨b, 0, none⟩ = some (.int .i64 s.st) ∧ W.cell? ⟨b, 1, none⟩ = some (.int .i64 s.sm) ∧ W.cell? ⟨b, 2, none⟩ = some (.int .i64 s.ch) ∧ W.cell? ⟨b, 3, none⟩ = some (.int .i64 s.cd) ∧ W.cell? ⟨b, 4, none⟩ = some (.map (some mb)) := by
  refine ⟨?_, ?_, ?_, ?_, ?_⟩ <;> (rw [h.blk.cell]; rfl)
theorem JobAt.ecells (h : JobAt b mb s W) : W.cell? ⟨b, 5, none⟩ = some (.int .i64 s.e.kind) ∧ W.cell? ⟨b, 6, none⟩ = some (.int .i64 s.e.sum) ∧ W.cell? ⟨b, 7, none⟩ = some (.int .i64 s.e.num) ∧ W.cell? ⟨b, 8, none⟩ = some (.int .i64 s.e.len) ∧ W.cell? ⟨b, 9, none⟩ = some (.int .i64 s.e.code) := by
  refine ⟨?_, ?_, ?_, ?_, ?_⟩ <;> (rw [h.blk.cell]; rfl)
end
theorem state_any (b mb : Nat) (s : JobS) (w : World) (h : JobAt b mb s w) : Calls Tryd.prog 53 #[.pointer (some ⟨b, 0, none⟩)] w fun e w' => e = .returned (.int .i64 s.st) ∧ w' = w := by
  obtain ⟨c0, c1, c2, c3, c4⟩ := h.cells
  clear h
  go_enter Tryd.func53, Tryd.ntmps53
  go_wp2_with fail
  go_ret
  exact ⟨rfl, rfl⟩
theorem jsum_any (b mb : Nat) (s : JobS) (w : World) (h : JobAt b mb s w) : Calls Tryd.prog 78 #[.pointer (some ⟨b, 0, none⟩)] w fun e w' => e = .returned (.int .i64 s.sm) ∧ w' = w := by
  obtain ⟨c0, c1, c2, c3, c4⟩ := h.cells
  clear h
  go_enter Tryd.func78, Tryd.ntmps78
  go_wp2_with fail
  go_ret
  exact ⟨rfl, rfl⟩
theorem chunks_any (b mb : Nat) (s : JobS) (w : World) (h : JobAt b mb s w) : Calls Tryd.prog 81 #[.pointer (some ⟨b, 0, none⟩)] w fun e w' => e = .returned (.int .i64 s.ch) ∧ w' = w := by
  obtain ⟨c0, c1, c2, c3, c4⟩ := h.cells
  clear h
  go_enter Tryd.func81, Tryd.ntmps81
  go_wp2_with fail
  go_ret
  exact ⟨rfl, rfl⟩
theorem jcode_any (b mb : Nat) (s : JobS) (w : World) (h : JobAt b mb s w) : Calls Tryd.prog 82 #[.pointer (some ⟨b, 0, none⟩)] w fun e w' => e = .returned (.int .i64 s.cd) ∧ w' = w := by
  obtain ⟨c0, c1, c2, c3, c4⟩ := h.cells
  clear h
  go_enter Tryd.func82, Tryd.ntmps82
  go_wp2_with fail
  go_ret
  exact ⟨rfl, rfl⟩
theorem jnew_any (w : World) : Calls Tryd.prog 47 #[] w fun e w' => ∃ b mb, e = .returned (.pointer (some ⟨b, 0, none⟩)) ∧ JobAt b mb jobZ w' ∧ Below w.heap.size w w' ∧ w.heap.size ≤ b ∧ w.heap.size ≤ mb := by
  have hmm := @run_makeMap Tryd.prog
  go_enter Tryd.func47, Tryd.ntmps47
  go_wp2_with fail
  go_ret
  refine ⟨w.heap.size + 1, w.heap.size, rfl, ⟨?_, (MapAt.made w).below ((Below.refl _ _).alloc (Nat.le_refl _) _), by omega⟩, ((Below.refl _ _).alloc (Nat.le_refl _) _).alloc (by simp) _, by omega, Nat.le_refl _⟩
  exact blk_new_at (by simp) _ _
set_option maxRecDepth 100000 in
theorem done_any (b mb : Nat) (s : JobS) (n : Int) (w : World) (h : JobAt b mb s w) (hn : (Lit.int .i64 n).wf = true) : Calls Tryd.prog 51 #[.pointer (some ⟨b, 0, none⟩), .int .i64 n] w fun e w' => e = .returned (.tuple #[((dAt s.d n).getD recZ).val, .bool (dAt s.d n).isSome]) ∧ Below w.heap.size w w' := by
  have h0 := h.below ((Below.refl w.heap.size w).alloc (Nat.le_refl _) (.cells #[.int .i64 0, .int .i64 0, .int .i64 0, .int .i64 0, .int .i64 0] 73))
  obtain ⟨c0, c1, c2, c3, c4⟩ := h0.cells
  have hl := h0.map.look n hn
  generalize (dAt s.d n).isSome = q at *
  generalize (dAt s.d n).getD recZ = r at *
  obtain ⟨r0, r1, r2, r3, r4⟩ := r
  unfold RecS.val at *
  dsimp only at *
  clear h h0 hn
  go_enter Tryd.func51, Tryd.ntmps51
  go_wp2_with fail
  exact bodyPost_ret (v := .tuple #[.agg #[.int .i64 r0, .int .i64 r1, .int .i64 r2, .int .i64 r3, .int .i64 r4], .bool q]) (by simp [results, Tryd.results51, go_sem]) rfl ⟨rfl, ((Below.refl _ _).alloc (Nat.le_refl _) _).alloc (by simp) _⟩
set_option maxRecDepth 100000 in
set_option maxHeartbeats 1000000 in
theorem end_any (b mb : Nat) (s : JobS) (w : World) (h : JobAt b mb s w) : Calls Tryd.prog 80 #[.pointer (some ⟨b, 0, none⟩)] w fun e w' => e = .returned (.tuple #[s.e.val, .bool (s.st == 3)]) ∧ Below w.heap.size w w' := by
  have h0 := h.below ((Below.refl w.heap.size w).alloc (Nat.le_refl _) (.cells #[.int .i64 0, .int .i64 0, .int .i64 0, .int .i64 0, .int .i64 0] 73))
  obtain ⟨c0, c1, c2, c3, c4⟩ := h0.cells
  obtain ⟨e0, e1, e2, e3, e4⟩ := h0.ecells
  obtain ⟨st, sm, ch, cd, d, ⟨r0, r1, r2, r3, r4⟩⟩ := s
  have h1 := h.below ((Below.refl w.heap.size w).alloc (Nat.le_refl _) (.cells #[.int .i64 r0, .int .i64 r1, .int .i64 r2, .int .i64 r3, .int .i64 r4] 73))
  obtain ⟨k0, k1, k2, k3, k4⟩ := h1.cells
  obtain ⟨l0, l1, l2, l3, l4⟩ := h1.ecells
  unfold RecS.val
  dsimp only at *
  clear h h0 h1 c1 c2 c3 c4 k1 k2 k3 k4
  go_enter Tryd.func80, Tryd.ntmps80
  go_wp2_with fail
  go_region_held3 (fun W => W.cell? ⟨b, 0, none⟩ = some (.int .i64 st) ∧ W.cell? ⟨b, 5, none⟩ = some (.int .i64 r0) ∧ W.cell? ⟨b, 6, none⟩ = some (.int .i64 r1) ∧ W.cell? ⟨b, 7, none⟩ = some (.int .i64 r2) ∧ W.cell? ⟨b, 8, none⟩ = some (.int .i64 r3) ∧ W.cell? ⟨b, 9, none⟩ = some (.int .i64 r4))
    (first | exact ⟨c0, e0, e1, e2, e3, e4⟩ | exact ⟨k0, l0, l1, l2, l3, l4⟩) (fail)
  all_goals
    go_wp2_with fail
    exact bodyPost_ret (v := .tuple #[.agg #[.int .i64 r0, .int .i64 r1, .int .i64 r2, .int .i64 r3, .int .i64 r4], .bool (st == 3)]) (by simp [results, Tryd.results80, go_sem]) rfl ⟨rfl, ((Below.refl _ _).alloc (Nat.le_refl _) _).drew⟩
/-- The chunks below i that are not done. -/
def missTo (s : JobS) (i : Nat) : List Nat := (List.range i).filter fun j => (dAt s.d (j : Int)).isNone
theorem missTo_yes {s : JobS} {i : Nat} (h : (dAt s.d (i : Int)).isSome = true) : missTo s (i + 1) = missTo s i := by
  unfold missTo
  rw [List.range_succ, List.filter_append]
  have : (dAt s.d (i : Int)).isNone = false := by cases hd : dAt s.d (i : Int) <;> simp_all
  simp [this]
theorem missTo_no {s : JobS} {i : Nat} (h : (dAt s.d (i : Int)).isSome = false) : missTo s (i + 1) = missTo s i ++ [i] := by
  unfold missTo
  rw [List.range_succ, List.filter_append]
  have : (dAt s.d (i : Int)).isNone = true := by cases hd : dAt s.d (i : Int) <;> simp_all
  simp [this]
theorem missTo_len (s : JobS) (i : Nat) : (missTo s i).length ≤ i := by
  have := List.length_filter_le (fun j : Nat => (dAt s.d (j : Int)).isNone) (List.range i)
  rw [List.length_range] at this
  exact this
def natV (n : Nat) : Value := .int .i64 (n : Int)
theorem info_intJ : (Tryd.prog.info? 3).map (fun i => (i.zero, i.size, i.bytes)) = some (some (.int .i64 0), 1, 8) := by kernel_rfl
theorem blk_fromJ {w : World} {g : Nat} {t : TypeId} {v : Value} (h : Blk w g t #[v]) (c : Nat) : From w 1 (.slice (some ⟨g, 0, none⟩) 1 c) 1 [v] := by
  refine ⟨_, _, rfl, by simp, fun _ => ⟨_, rfl, fun j u hu => ?_⟩⟩
  rw [addr_add, Nat.zero_add, h.cell]
  simpa using hu
/-- A row of one's own of these numbers. -/
def MissRes (l : List Nat) (w : World) (e : Ending) (w' : World) : Prop := ∃ lv, e = .returned lv ∧ w'.ownsRow w.heap.size 3 1 lv l.length (l.map natV) ∧ Below w.heap.size w w'
set_option maxRecDepth 100000 in
set_option maxHeartbeats 2000000 in
theorem missing_any (b mb : Nat) (s : JobS) (w : World) (h : JobAt b mb s w) (hi : JI s) : Calls Tryd.prog 52 #[.pointer (some ⟨b, 0, none⟩)] w (MissRes (missTo s s.ch.toNat) w) := by
  obtain ⟨i0, hi0, hz0, hz1, hz2⟩ := info_parts info_intJ
  have IP := hid (And.intro hi0 (And.intro hz0 (And.intro hz1 hz2)))
  have X := hid h
  obtain ⟨c0, c1, c2, c3, c4⟩ := h.cells
  obtain ⟨ch, hch⟩ := Int.eq_ofNat_of_zero_le hi.ch0
  have hch1 := hi.ch1
  have e1 : s.ch.toNat = ch := by omega
  rw [e1]
  rw [hch] at c2 hch1
  have hc16 : ch ≤ 16 := by omega
  clear hi0 hz0 hz1 hz2 h hi hch e1 hch1
  go_enter Tryd.func52, Tryd.ntmps52
  go_wp2_with fail
  go_loopg [3, 11] ch (fun k lv iv wr => ∃ i : Nat, i + k = ch ∧ iv = .int .i64 i ∧ wr.ownsRow w.heap.size 3 1 lv (missTo s i).length ((missTo s i).map natV) ∧ Below w.heap.size w wr)
  case atStart => exact ⟨0, by omega, rfl, World.ownsRow_nil _ _ _ _, Below.refl _ _⟩
  case round =>
    obtain ⟨i, hik, rfl, hO, hB⟩ := hrel
    have J := X.out.below hB
    have hl := J.map.look (i : Int) (WalkArith.wf_i64 (by omega))
    obtain ⟨c0', c1', c2', c3', c4'⟩ := J.cells
    have R := hid (And.intro hO (And.intro hB (missTo_len s i)))
    by_cases hlt : i < ch
    · have d1 : decide ((i : Int) < (ch : Int)) = true := by simp; omega
      have d2 : decide (i < ch) = true := by simp; omega
      have hyes : (dAt s.d (i : Int)).isSome = true → missTo s (i + 1) = missTo s i := missTo_yes
      have hno : (dAt s.d (i : Int)).isSome = false → missTo s (i + 1) = missTo s i ++ [i] := missTo_no
      generalize (dAt s.d (i : Int)).isSome = q at *
      generalize (dAt s.d (i : Int)).getD recZ = r at *
      obtain ⟨r0, r1, r2, r3, r4⟩ := r
      unfold RecS.val at hl
      dsimp only at hl
      have HI := hid (And.intro hik hlt)
      have k1 : (i : Int) < (ch : Int) := by omega
      have hba : Below wr.heap.size wr (wr.alloc (.cells #[.int .i64 r0, .int .i64 r1, .int .i64 r2, .int .i64 r3, .int .i64 r4] 73)) := (Below.refl _ _).alloc (Nat.le_refl _) _
      have BA := hid (And.intro hba (own_below R.out.1 hba))
      clear hik hlt hO hB J hba c0 c1 c2 c3 c4
      cases q
      · have HN := hid (hno rfl)
        clear hyes hno
        have hz := R.out.2.1.size
        have F := hid (blk_fromJ (blk_new_at (w := wr.alloc (.cells #[.int .i64 r0, .int .i64 r1, .int .i64 r2, .int .i64 r3, .int .i64 r4] 73)) (n := wr.heap.size + 1) (by simp) 3 #[.int .i64 i]) 1)
        go_wp2_with (at_builtin; refine wpList_append_form _ rfl (.tmp 25) (.tmp 27) _ rfl w.heap.size 3 i0 (.int .i64 0) 1 8 Tryd.underlying61 IP.out.1 IP.out.2.1 IP.out.2.2.1 IP.out.2.2.2 rfl (by omega) u3 (missTo s i).length ((missTo s i).map natV) rfl (by exact BA.out.2.alloc _) (.slice (some ⟨wr.heap.size + 1, 0, none⟩) 1 1) 1 [.int .i64 i] rfl (by exact F.out) (by simp [Value.oneCell']) (.inr (by omega)) (by have := R.out.2.2; unfold maxLen; omega) (by have := R.out.2.2; omega) (by simp; omega) ((missTo s i).length + 1) ((missTo s i ++ [i]).map natV) rfl (by simp [natV]) ?_; intro g4 cap4 w4 hown hgrow hat hlt4)
        have ob := BA.out.2.alloc (.cells #[.int .i64 i] 3)
        have bb := (R.out.2.1.trans (BA.out.1.mono hz)).alloc (by simp; omega) (.cells #[.int .i64 i] 3)
        have b4 := bb.grown hgrow bb.size (fun k hk => (ob.lt k hk).1)
        have B4 := hid (And.intro hown b4)
        clear hown hgrow hat hlt4 ob bb b4
        go_wp2_with fail
        obtain ⟨hik, hlt⟩ := HI.out
        go_roundg (gk - 1)
        case measure => omega
        case rel =>
          refine ⟨i + 1, by omega, by go_num, ?_, B4.out.2⟩
          rw [HN.out, List.length_append]
          exact B4.out.1
      · have HN := hid (hyes rfl)
        clear hyes hno
        go_wp2_with fail
        obtain ⟨hik, hlt⟩ := HI.out
        go_roundg (gk - 1)
        case measure => omega
        case rel =>
          refine ⟨i + 1, by omega, by go_num, ?_, R.out.2.1.trans (BA.out.1.mono R.out.2.1.size)⟩
          rw [HN.out]
          exact BA.out.2
    · obtain rfl : i = ch := by omega
      have d1 : decide ((i : Int) < (i : Int)) = false := by simp
      go_wp2_with fail
      go_ret
      exact ⟨_, rfl, R.out.1, R.out.2.1⟩
set_option maxRecDepth 100000 in
set_option maxHeartbeats 1000000 in
theorem forget_any (b mb : Nat) (s : JobS) (n : Int) (w : World) (h : JobAt b mb s w) (hn : (Lit.int .i64 n).wf = true) :
    Calls Tryd.prog 55 #[.pointer (some ⟨b, 0, none⟩), .int .i64 n] w fun e w' => e = .returned (.tuple #[]) ∧ JobAt b mb (forgetJ s n) w' ∧ Only (JF2 b mb) w w' := by
  obtain ⟨c0, c1, c2, c3, c4⟩ := h.cells
  obtain ⟨w2, hdel, hM, hO⟩ := h.map.del n hn (0 : TypeId)
  have hdel2 : ∀ ty, (Builtin.delete_ #[139, 3] ty #[.map (some mb), .int .i64 n]).run Tryd.prog w = .ok (.tuple #[]) w2 := fun ty => by rw [← hdel]; rfl
  by_cases hst : s.st = 1
  · have d1 : (s.st == 1) = true := by simp [hst]
    have X := hid (And.intro h (And.intro hM (And.intro hO hst)))
    clear h hM hO hst hdel
    go_enter Tryd.func55, Tryd.ntmps55
    go_wp2_with fail
    obtain ⟨h, hM, hO, hst⟩ := X.out
    refine bodyPost_end (v := .tuple #[]) (by simp [results, Tryd.results55, go_sem]) rfl ⟨rfl, ?_, hO.mono (fun k _ hk => .inr hk)⟩
    unfold forgetJ
    rcases Int.lt_or_le n 0 with h0 | h0
    · rw [if_neg (by omega)]
      rw [if_neg (by omega)] at hM
      exact ⟨h.blk.keep hO h.ne, hM, h.ne⟩
    · rw [if_pos ⟨hst, h0⟩]
      rw [if_pos h0] at hM
      exact ⟨h.blk.keep hO h.ne, hM, h.ne⟩
  · have d1 : (s.st == 1) = false := by simp [hst]
    have e : forgetJ s n = s := by unfold forgetJ; rw [if_neg (fun h => hst h.1)]
    rw [e]
    have X := hid h
    clear h hM hO hst hdel e hdel2
    go_enter Tryd.func55, Tryd.ntmps55
    go_wp2_with fail
    exact bodyPost_end (v := .tuple #[]) (by simp [results, Tryd.results55, go_sem]) rfl ⟨rfl, X.out, Only.refl _ _⟩
theorem run_eql_map_nil (w : World) (p : Option Nat) : (binOp .eql 139 (.map p) (.map none)).run Tryd.prog w = .ok (.bool (p == none)) w := by
  have h : ∀ d, (Op.equalIn (d + 1) 139 (.map p) (.map none)).run Tryd.prog w = .ok p.isNone w := by
    intro d
    cases p <;> simp [Op.equalIn, run_underlying Tryd.underlying139]
  have e : (p == none) = p.isNone := by cases p <;> rfl
  rw [e]
  simp only [binOp]
  simp [show Op.equal 139 (.map p) (.map none) = Op.equalIn (9999 + 1) 139 (.map p) (.map none) from rfl, h]
theorem run_assert_map (t xT : TypeId) (v : Value) (h : Tryd.prog.underlying t = some (.map 3 73)) (w : World) : (Instr.typeAssert (.iface t v) xT t false).run Tryd.prog w = .ok v w := by
  simp [Instr.typeAssert, run_underlying h, go_sem, Result.andThen]
set_option maxRecDepth 100000 in
theorem clone_any (mb : Nat) (d : List (Option RecS)) (w : World) (h : MapAt w mb d) : Calls Tryd.prog 88 #[.map (some mb)] w fun e w' => e = .returned (.map (some w.heap.size)) ∧ MapAt w' w.heap.size d ∧ Below w.heap.size w w' := by
  obtain ⟨es, clock, hb, hm⟩ := h.form
  have hcl : ∀ t, (Extern.MapsClone.clone #[.iface t (.map (some mb))]).run Tryd.prog w = .ok (.iface t (.map (some w.heap.size))) (w.alloc (.map es clock)) := by
    intro t
    have e : Extern.MapsClone.clone #[.iface t (.map (some mb))] = (getObj mb >>= fun o => match o with
      | .map entries clock => (newObj (.map entries clock) >>= fun n => pure (.iface t (.map (some n))))
      | _ => stuck "maps.clone: a map expected") := rfl
    rw [e]
    simp [MapKept.run_getObj_map hb, Result.andThen, go_sem]
  have HM := hid (hm w)
  have hq := fun W : World => run_eql_map_nil W (some mb)
  clear h hm
  go_enter Tryd.func88, Tryd.ntmps88
  go_wp2_with fail
  rw [run_callFunc_extern Tryd.func104 (by kernel_rfl) (by kernel_rfl) (by kernel_rfl) (e := Extern.MapsClone.clone) (by kernel_rfl), hcl 139]
  simp only [Result.andThen]
  rw [Oper.upon_value]
  go_wp2_with fail
  rw [run_assert_map 139 _ _ Tryd.underlying139]
  simp only [Result.andThen]
  rw [Oper.upon_value]
  go_wp2_with fail
  go_ret
  exact ⟨rfl, HM.out, (Below.refl _ _).alloc (Nat.le_refl _) _⟩
end Go.Proofs.YtabklmkdneoaaaaDoor
