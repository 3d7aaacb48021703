/- Parts: XCoefD. -/
import Derived.Test.YtkkgpdejmcpcpaaGreatDoorM20
/- Chapter 14: kinref14.Code at whatever coder. -/
namespace Go.Proofs.YtkkgpdejmcpcpaaGreatDoor
open Go.RowKit
set_option maxRecDepth 100000 in
set_option maxHeartbeats 1000000 in
theorem rest_any (x ov : Value) (l : List Int) (ord : List Nat) (i : Nat) (z : Int) (hz : z = (i : Int)) (w : World) (hx : Nums w x l) (ho : Nums w ov (ord.map fun n : Nat => (n : Int))) (hlt : ∀ a ∈ ord, a < l.length) (hi : i ≤ ord.length) (hl : ord.length ≤ 1000) :
    Calls Tryz.prog 72 #[x, ov, .int .i64 z] w fun e w' => e = .returned (.bool (restZ l (ord.drop i))) ∧ w' = w := by
  subst hz
  obtain ⟨A, c, rfl, _⟩ := hx.form
  obtain ⟨B, d, hov, _⟩ := ho.form
  rw [List.length_map] at hov
  subst hov
  have X := hid (And.intro hx (And.intro ho (And.intro hlt hi)))
  clear hx ho hlt hi
  go_enter Tryz.func72, Tryz.ntmps72
  go_wp2_with fail
  go_loopg [7] ord.length (fun k iv wr => ∃ j : Nat, iv = .int .i64 j ∧ i ≤ j ∧ j ≤ ord.length ∧ ord.length ≤ j + k ∧ restZ l (ord.drop i) = restZ l (ord.drop j) ∧ w = wr)
  case atStart => exact ⟨i, rfl, Nat.le_refl _, X.out.2.2.2, by omega, rfl, rfl⟩
  case round =>
    obtain ⟨j, rfl, hij, hjl, hk, hre, rfl⟩ := hrel
    by_cases hlt : j < ord.length
    · obtain ⟨a, ha⟩ : ∃ a, ord[j]? = some a := ⟨ord[j], List.getElem?_eq_getElem hlt⟩
      have hal := X.out.2.2.1 a (List.mem_of_getElem? ha)
      obtain ⟨v, hv⟩ : ∃ v, l[a]? = some v := ⟨l[a], List.getElem?_eq_getElem hal⟩
      have hvd : l.getD a 0 = v := by rw [List.getD_eq_getElem?_getD, hv]; rfl
      obtain ⟨b0, o0, rfl, _, p0⟩ := X.out.1.at_ hv
      obtain ⟨b1, o1, rfl, _, p1⟩ := X.out.2.1.at_ (show (ord.map fun n : Nat => (n : Int))[j]? = some (a : Int) by rw [List.getElem?_map, ha]; rfl)
      have k0 : (0 : Int) ≤ (j : Int) := by omega
      have k1 : (j : Int) < (ord.length : Int) := by omega
      have k2 : (0 : Int) ≤ (a : Int) := by omega
      have k3 : (a : Int) < (l.length : Int) := by omega
      have d1 : decide ((j : Int) < (ord.length : Int)) = true := by simp; omega
      have d2 : decide (j < ord.length) = true := decide_eq_true hlt
      rw [drop_ord ha] at hre
      have hz : restZ l (a :: ord.drop (j + 1)) = (decide (v = 0) && restZ l (ord.drop (j + 1))) := by
        unfold restZ
        rw [List.all_cons, hvd]
      rw [hz] at hre
      have HJ := hid (And.intro hij (And.intro hk hlt))
      have hc : ((v != 0) = true ∧ decide (v = 0) = false) ∨ ((v != 0) = false ∧ decide (v = 0) = true) := by by_cases h : v = 0 <;> simp [h]
      clear ha hal hv hvd hz hij hk hlt hjl
      rcases hc with ⟨h1, h2⟩ | ⟨h1, h2⟩
      · rw [h2, Bool.false_and] at hre
        have HR := hid hre
        clear hre h2
        go_wp2_with fail
        go_ret
        rw [HR.out]
        exact ⟨rfl, rfl⟩
      · rw [h2, Bool.true_and] at hre
        have HR := hid hre
        clear hre h2
        go_wp2_with fail
        go_roundg (gk - 1)
        case measure => have := HJ.out; omega
        case rel => exact ⟨j + 1, by go_num, by have := HJ.out; omega, by have := HJ.out; omega, by have := HJ.out; omega, HR.out, rfl⟩
    · obtain rfl : j = ord.length := by omega
      have d1 : decide ((ord.length : Int) < (ord.length : Int)) = false := by simp
      rw [List.drop_length] at hre
      have HR := hid hre
      clear hre hlt hij hjl hk
      go_wp2_with fail
      go_ret
      rw [HR.out]
      exact ⟨rfl, rfl⟩
section
variable {σ : Type} {M : Mach σ} {At : World → (Nat → Prop) → σ → Prop} {Ok : σ → Nat → Prop} {fB fF : FuncId} {me : Value}
theorem run_level (M : Mach σ) (base : Nat) (v : Int) (s : σ) : M.run (levelA base v) s = (if (M.flat s (decide (v < 0))).1 then -((M.run (sizeA base (max v (-v) - 1)) (M.flat s (decide (v < 0))).2).1 : Int) - 1 else ((M.run (sizeA base (max v (-v) - 1)) (M.flat s (decide (v < 0))).2).1 : Int) + 1, (M.run (sizeA base (max v (-v) - 1)) (M.flat s (decide (v < 0))).2).2) := by
  show M.run ((sizeA base (max v (-v) - 1)).bind fun n => (.ret (if (M.flat s (decide (v < 0))).1 then -(n : Int) - 1 else (n : Int) + 1) : Ask Int)) (M.flat s (decide (v < 0))).2 = _
  rw [run_bind]
  rfl
theorem lvOut_if (d : Bool) (n : Nat) : lvOut (if d then -(n : Int) - 1 else (n : Int) + 1) = decide (16320 < (n : Int) + 1) := by
  unfold lvOut
  cases d
  · simp only [Bool.false_eq_true, if_false]
    rw [decide_eq_false (show ¬ ((n : Int) + 1 < -16320) by omega), Bool.false_or]
  · simp only [if_true]
    rw [decide_eq_false (show ¬ (16320 < -(n : Int) - 1) by omega), Bool.or_false]
    rw [Bool.eq_iff_iff]
    simp only [decide_eq_true_eq]
    omega
/-- The error's block, that is filled at the end. -/
structure EOff (w0 : World) (r0 : Nat) (W : World) (F : Nat → Prop) : Prop where
  b : Blk W r0 46 #[.int .i64 0, .slice none 0 0]
  f : ¬ F r0
  lo : w0.heap.size ≤ r0
/-- What the document's walk holds. -/
structure SqE (At : World → (Nat → Prop) → σ → Prop) (w0 : World) (F0 : Nat → Prop) (x : Value) (l : List Int) (ov : Value) (ord : List Nat) (g r0 : Nat) (out : List Int) (s : σ) (W : World) (F : Nat → Prop) : Prop where
  q : Sq At w0 F0 x l ov ord g out s W F
  e : EOff w0 r0 W F
  ne : r0 ≠ g
variable {w0 W W' : World} {F0 F F' : Nat → Prop} {s s' : σ} {x ov : Value} {l : List Int} {g r0 : Nat} {ord : List Nat} {out : List Int}
theorem SqE.moved (h : SqE At w0 F0 x l ov ord g r0 out s W F) (hm : Moved At W F s' W') : ∃ F', SqE At w0 F0 x l ov ord g r0 out s' W' F' := by
  obtain ⟨F', a, o, f⟩ := hm
  exact ⟨F', ⟨h.q.cw.moved a o f, h.q.xo.moved o f, h.q.oo.moved o f, h.q.go.moved o f, h.q.xg, h.q.og⟩, ⟨h.e.b.keep o h.e.f, fun hF => by
    rcases f r0 hF with h1 | h1
    · exact h.e.f h1
    · have := h.e.b.lt; omega, h.e.lo⟩, h.ne⟩
theorem SqE.below (H : IsCoder M fB fF me At Ok) (h : SqE At w0 F0 x l ov ord g r0 out s W F) (hb : Below W.heap.size W W') : SqE At w0 F0 x l ov ord g r0 out s W' F :=
  ⟨h.q.below H hb, ⟨h.e.b.below hb h.e.b.lt, h.e.f, h.e.lo⟩, h.ne⟩
theorem SqE.put (H : IsCoder M fB fF me At Ok) (h : SqE At w0 F0 x l ov ord g r0 out s W F) (a : Nat) (v : Int) : SqE At w0 F0 x l ov ord g r0 (out.set a v) s (W.setCell ⟨g, a, none⟩ (.int .i64 v)) F :=
  ⟨h.q.put H a v, ⟨h.e.b.far (p := ⟨g, a, none⟩) h.ne _, h.e.f, h.e.lo⟩, h.ne⟩
theorem BOff.far {g r : Nat} (h : BOff w0 g l W F) (hne : g ≠ r) (a : Nat) (v : Value) : BOff w0 g l (W.setCell ⟨r, a, none⟩ v) F := ⟨h.b.far (p := ⟨r, a, none⟩) hne _, h.f, h.lo⟩
/-- The error is filled: the rest stays. -/
theorem SqE.fill (H : IsCoder M fB fF me At Ok) (h : SqE At w0 F0 x l ov ord g r0 out s W F) (u0 u1 : Value) :
    CW At w0 F0 s ((W.setCell ⟨r0, 0, none⟩ u0).setCell ⟨r0, 1, none⟩ u1) F ∧ BOff w0 g out ((W.setCell ⟨r0, 0, none⟩ u0).setCell ⟨r0, 1, none⟩ u1) F ∧ Blk ((W.setCell ⟨r0, 0, none⟩ u0).setCell ⟨r0, 1, none⟩ u1) r0 46 #[u0, u1] :=
  ⟨(h.q.cw.put H h.e.f h.e.lo 0 u0).put H h.e.f h.e.lo 1 u1, (h.q.go.far (fun e => h.ne e.symm) 0 u0).far (fun e => h.ne e.symm) 1 u1, by simpa using (h.e.b.put 0 u0).put 1 u1⟩
theorem SqE.start (H : IsCoder M fB fF me At Ok) (n : Nat) (hs : At w0 F s) (hx : NOff x l w0 F) {w1 : World} (hw1 : w1 = w0.alloc (.cells #[.int .i64 0, .slice none 0 0] 46)) (ho : W.ownsRow w1.heap.size 3 1 ov ord.length (ord.map natV)) (hb : Below w1.heap.size w1 W) :
    SqE At w0 F x l ov ord W.heap.size w0.heap.size (zerosL n) s (W.alloc (.cells ((zerosL n).map intV).toArray 3)) F := by
  have hal : Below W.heap.size W (W.alloc (.cells ((zerosL n).map intV).toArray 3)) := (Below.refl _ _).alloc (Nat.le_refl _) _
  have hb1 : Below w0.heap.size w0 w1 := by rw [hw1]; exact (Below.refl _ _).alloc (Nat.le_refl _) _
  have hs1 : w1.heap.size = w0.heap.size + 1 := by rw [hw1]; simp
  have hb0 : Below w0.heap.size w0 W := hb1.trans (hb.mono hb1.size)
  have hz := hb.size
  have ht : ∀ k, F k → k < w0.heap.size := fun k hk => H.there _ _ _ _ hs hk
  have hno : NOff ov (ord.map fun n : Nat => (n : Int)) W F := by
    refine ⟨Nums.of_own (base := w1.heap.size) (t := 3) (n := ord.length) (by rw [← natV_intV]; exact ho) (by simp), fun k hk hF => ?_, fun k hk => (ho.lt k hk).2⟩
    have := (ho.lt k hk).1
    have := ht k hF
    omega
  have he : Blk w1 w0.heap.size 46 #[.int .i64 0, .slice none 0 0] := by rw [hw1]; exact Blk.new _ _ _
  refine ⟨⟨((CW.start hs).below H hb0).below H hal, (hx.below hb0).below hal, hno.below hal, ⟨Blk.new _ _ _, fun hF => ?_, by omega⟩, fun k hk e => ?_, fun k hk e => ?_⟩, ⟨(he.below hb (by omega)).below hal (by omega), fun hF => ?_, Nat.le_refl _⟩, by omega⟩
  · have := ht _ hF; omega
  · have := hx.b k hk; omega
  · have := (ho.lt k hk).2; omega
  · have := ht _ hF; omega
def RSqAns (w0 : World) (r : SqR) (F : Nat → Prop) (e : Ending) (w' : World) : Prop :=
  match r.1 with
  | none => ∃ g, e = .returned (.tuple #[.slice (some ⟨g, 0, none⟩) r.2.length r.2.length, .agg #[.int .i64 0, .slice none 0 0]]) ∧ BOff w0 g r.2 w' F
  | some i => ∃ pv, e = .returned (.tuple #[.slice none 0 0, .agg #[.int .i64 3, pv]]) ∧ Steps w' pv [(⟨#[99, 111, 101, 102]⟩, (i : Int))]
theorem RSqAns.told {n : Nat} {e : Ending} (he : e = .returned (.tuple #[.slice (some ⟨g, 0, none⟩) n n, .agg #[.int .i64 0, .slice none 0 0]])) (hn : out.length = n) (hb : BOff w0 g out W F) : RSqAns w0 (none, out) F e W := ⟨g, by subst hn; exact he, hb⟩
theorem RSqAns.bad {i : Nat} {pv : Value} {e : Ending} (he : e = .returned (.tuple #[.slice none 0 0, .agg #[.int .i64 3, pv]])) (hv : Steps W pv [(⟨#[99, 111, 101, 102]⟩, (i : Int))]) : RSqAns w0 (some i, []) F e W := ⟨pv, he, hv⟩
def RCodeRes (M : Mach σ) (At : World → (Nat → Prop) → σ → Prop) (w0 : World) (F0 : Nat → Prop) (p : Ask SqR) (s : σ) (e : Ending) (w' : World) : Prop :=
  ∃ F, CW At w0 F0 (M.run p s).2 w' F ∧ RSqAns w0 (M.run p s).1 F e w'
end
section
variable {σ : Type} {M : Mach σ} {At : World → (Nat → Prop) → σ → Prop} {Ok : σ → Nat → Prop}
theorem blk2E {W : World} {g : Nat} {t : TypeId} {a0 a1 : Value} (h : Blk W g t #[a0, a1]) : W.cell? ⟨g, 0, none⟩ = some a0 ∧ W.cell? ⟨g, 1, none⟩ = some a1 := ⟨by simpa using h.cell 0, by simpa using h.cell 1⟩
theorem all_ones (f : Nat → Nat) (v : Int) : ∀ k n, (onesA f v k n).All fun m => m ≤ n + k := by
  intro k
  induction k with
  | zero => intro n; show n ≤ n + 0; omega
  | succ k ih =>
    intro n b
    cases b
    · show n ≤ n + (k + 1); omega
    · have hm : ∀ {α : Type} {P Q : α → Prop} {p : Ask α}, p.All P → (∀ a, P a → Q a) → p.All Q := by
        intro α P Q p hp hq
        induction p with
        | ret a => exact hq a hp
        | bit c u k ih => exact fun b => ih b (hp b)
        | flat u k ih => exact fun b => ih b (hp b)
      exact hm (ih (n + 1)) (fun a ha => by omega)
theorem all_size (base : Nat) (v : Int) : (sizeA base v).All fun m => m ≤ 20000 := All.bind (all_ones _ _ 14 0) fun n hn => by
  show (if n = 14 then _ else _ : Ask Nat).All _
  split
  · exact All.bind (all_great (v - 13)) fun g hg => by show 13 + g ≤ 20000; omega
  · show n ≤ 20000; omega
set_option maxRecDepth 100000 in
set_option maxHeartbeats 1000000 in
theorem rcode_any (b : Nat) (H : IsCoder M 65 64 (.pointer (some ⟨b, 0, none⟩)) At Ok) (sd base : Nat) (x : Value) (l : List Int)
    (hsd : (sd = 4 ∧ base = 14 ∧ l.length = 16) ∨ (sd = 8 ∧ base = 39 ∧ l.length = 64)) (hin : l.any lvOut = false) (s : σ) (w : World) (F : Nat → Prop) (lim : Nat) (hs : At w F s) (ho : Ok s lim) (hl : lim + 10000 ≤ 1000000000) (hx : NOff x l w F) :
    Calls Tryz.prog 42 #[.pointer (some ⟨b, 0, none⟩), x] w (RCodeRes M At w F (rsquareA base (ordOf sd) l) s) := by
  obtain ⟨A, cp, rfl, hcp⟩ := hx.n.form
  have S := hid (And.intro hs (And.intro ho hx))
  have HWI := hid (fun W (h : Nums W (.slice A l.length cp) l) => within_any _ l (-16320) 16320 W h (by rcases hsd with h | h <;> omega))
  rw [within_out l, hin] at HWI
  have HZ := hid (fun W (h : Nums W (.slice A l.length cp) l) => rzero_any _ l W h (by rcases hsd with h | h <;> omega))
  have hsdl : 0 < l.length ∧ l.length ≤ 64 ∧ base ≤ 39 := by rcases hsd with h | h <;> omega
  have HSD := hid (And.intro hsd hsdl)
  have IN := hid hin
  have hord : (ordOf sd).length = l.length := by
    rcases hsd with ⟨rfl, _, h⟩ | ⟨rfl, _, h⟩
    · rw [ord4_ok.len, h]
    · rw [ord8_ok.len, h]
  have hordlt : ∀ a ∈ ordOf sd, a < l.length := by
    rcases hsd with ⟨rfl, _, h⟩ | ⟨rfl, _, h⟩
    · rw [h]; exact ord4_ok.lt
    · rw [h]; exact ord8_ok.lt
  have HO := hid (fun W => rorder_any sd (by rcases hsd with h | h <;> omega) W)
  have HB : Hid (∀ W, Calls Tryz.prog 67 #[.int .i64 (sd : Int)] W fun e w' => e = .returned (.int .i64 (base : Int)) ∧ w' = W) := hid (by
    intro W
    rcases hsd with ⟨rfl, rfl, _⟩ | ⟨rfl, rfl, _⟩
    · exact rbase4 W
    · exact rbase8 W)
  have hsqn : (sd : Int) * (sd : Int) = (l.length : Int) := by rcases hsd with ⟨rfl, _, h⟩ | ⟨rfl, _, h⟩ <;> rw [h] <;> rfl
  have hsqw : IntKind.i64.wrap ((sd : Int) * (sd : Int)) = (l.length : Int) := by rw [hsqn]; exact IntWalk.i64_in _ (by omega)
  unfold OrdRes at HO
  generalize ordOf sd = ord at *
  have OL := hid (And.intro hord hordlt)
  have hbw : Below w.heap.size w (w.alloc (.cells #[.int .i64 0, .slice none 0 0] 46)) := (Below.refl _ _).alloc (Nat.le_refl _) _
  have BW := hid hbw
  clear hs ho hx hsd hsdl hin hord hordlt hbw hsqn
  go_enter Tryz.func42, Tryz.ntmps42
  go_upto_if 16 with fail
  generalize hw1 : w.alloc (.cells #[.int .i64 0, .slice none 0 0] 46) = w1 at *
  have HW1 := hid hw1.symm
  clear hw1
  go_cut [6] from 14 to 16 (fun v W => v = .int .i64 (sd : Int) ∧ w1 = W)
  case first =>
    rcases HSD.out.1 with ⟨rfl, h2, h3⟩ | ⟨rfl, h2, h3⟩
    · have d1 : ((l.length : Int) == 64) = false := by simp; omega
      clear h2 h3
      go_wp2_with fail
      go_meet
      exact ⟨rfl, rfl⟩
    · have d1 : ((l.length : Int) == 64) = true := by simp; omega
      clear h2 h3
      go_wp2_with fail
      go_meet
      exact ⟨rfl, rfl⟩
  case rest =>
    obtain ⟨rfl, rfl⟩ := hcut
    go_wp2_with fail
    refine (HWI.out _ (by exact (S.out.2.2.below BW.out).n)).mono ?_
    rintro e w2 ⟨rfl, rfl⟩
    go_wp2_with fail
    refine (HB.out _).mono ?_
    rintro e w2 ⟨rfl, rfl⟩
    go_wp2_with fail
    refine (HO.out _).mono ?_
    rintro e w3 ⟨ov, rfl, ho3, hb3⟩
    obtain ⟨OA, oc, hov, _⟩ := (Nums.of_own (l := ord.map fun n : Nat => (n : Int)) (by rw [← natV_intV]; exact ho3) (by simp)).form
    rw [List.length_map, OL.out.1] at hov
    subst hov
    have hl1 := HSD.out.2
    have hmk := run_make_int l.length (by omega)
    have hq4 := SqE.start H l.length S.out.1 S.out.2.2 HW1.out ho3 hb3
    obtain ⟨g, hg⟩ : ∃ g, w3.heap.size = g := ⟨_, rfl⟩
    obtain ⟨r0, hr0⟩ : ∃ g, w.heap.size = g := ⟨_, rfl⟩
    rw [hg, hr0] at hq4
    have Q4 := hid hq4
    clear ho3 hb3 hq4
    go_wp2_with fail
    generalize w3.alloc (.cells ((zerosL l.length).map intV).toArray 3) = w4 at *
    clear hg hr0 hmk
    refine (HZ.out _ (by exact Q4.out.q.xo.n)).mono ?_
    rintro e w5 ⟨rfl, rfl⟩
    go_wp2_with fail
    refine (H.bitN _ F s base _ rfl (by omega) _ lim (by exact Q4.out.q.cw.a) S.out.2.1 (by omega)).mono ?_
    rintro e w6 ⟨rfl, h5, ok5⟩
    obtain ⟨F6, hq5⟩ := Q4.out.moved h5
    have Q5 := hid (And.intro hq5 ok5)
    clear h5 hq5 ok5
    have SQ0 := hid (show M.run (rsquareA base ord l) s = M.run (if (M.bit s base (notZ l)).1 then rsqA base (l.length - 1) l ord 0 (zerosL l.length) else .ret (none, zerosL l.length)) (M.bit s base (notZ l)).2 from rfl)
    cases hq : (M.bit s base (notZ l)).1 with
    | false =>
      have HF := SQ0.out
      rw [hq] at HF
      have SQ := hid (HF.trans (by rfl : _ = ((none, zerosL l.length), (M.bit s base (notZ l)).2)))
      have Q11 := hid Q5.out.1
      clear hq HF
      obtain ⟨e0, e1⟩ := blk2E Q11.out.e.b
      have ef0 := Q11.out.e.b.frozen 0
      have ef1 := Q11.out.e.b.frozen 1
      go_wp2_with fail
      obtain ⟨hc9, hb9, hk9⟩ := Q11.out.fill H (.int .i64 0) (.slice none 0 0)
      obtain ⟨h90, h91⟩ := blk2E hk9
      exact bodyPost_ret (v := .tuple #[.slice (some ⟨g, 0, none⟩) l.length l.length, .agg #[.int .i64 0, .slice none 0 0]]) (by simp [results, Tryz.results42, go_sem, h90, h91]) rfl ⟨F6, by rw [SQ.out]; exact ⟨hc9, RSqAns.told rfl (by simp [zerosL]) hb9⟩⟩
    | true =>
      have HF := SQ0.out
      rw [hq] at HF
      have SQ := hid (HF.trans (by rfl : _ = M.run (rsqA base (l.length - 1) l ord 0 (zerosL l.length)) (M.bit s base (notZ l)).2))
      clear hq HF
      generalize (M.bit s base (notZ l)).2 = s0 at *
      have hlb : (0 : Int) ≤ (l.length : Int) ∧ (l.length : Int) ≤ 64 := by omega
      go_wp2_with fail
      go_loopg [10] l.length (fun k iv wr => ∃ (i : Nat) (out : List Int) (s1 : σ) (F1 : Nat → Prop), i + k = l.length ∧ iv = .int .i64 i ∧ out.length = l.length ∧ SqE At w F (.slice A l.length cp) l (.slice OA l.length oc) ord g r0 out s1 wr F1 ∧ (∃ m, m ≤ lim + 3 + 129 * i ∧ Ok s1 m) ∧ M.run (rsqA base (l.length - 1) l (ord.drop i) i out) s1 = M.run (rsqA base (l.length - 1) l ord 0 (zerosL l.length)) s0)
      case atStart => exact ⟨0, zerosL l.length, s0, F6, by omega, rfl, by simp [zerosL], Q5.out.1, ⟨lim + 3, by omega, Q5.out.2⟩, rfl⟩
      case round =>
        obtain ⟨i, out, s1, F1, hik, rfl, hol, hsq, ⟨m1, hm1, hok1⟩, hfin⟩ := hrel
        by_cases hlt : i < l.length
        · have hio : i < ord.length := by have := OL.out.1; omega
          obtain ⟨a, ha⟩ : ∃ a, ord[i]? = some a := ⟨ord[i], List.getElem?_eq_getElem hio⟩
          have hal := OL.out.2 a (List.mem_of_getElem? ha)
          obtain ⟨v, hv⟩ : ∃ v, l[a]? = some v := ⟨l[a], List.getElem?_eq_getElem hal⟩
          have hvd : l.getD a 0 = v := by rw [List.getD_eq_getElem?_getD, hv]; rfl
          have hvb : -16320 ≤ v ∧ v ≤ 16320 := by
            apply lvOut_false
            rw [Bool.eq_false_iff]
            intro h
            have := List.any_eq_true.2 ⟨v, List.mem_of_getElem? hv, h⟩
            rw [IN.out] at this
            exact Bool.noConfusion this
          rw [drop_ord ha] at hfin
          obtain ⟨b0, o0, rfl, _, p0⟩ := hsq.q.xo.n.at_ hv
          obtain ⟨b1, o1, rfl, _, p1⟩ := hsq.q.oo.n.at_ (show (ord.map fun n : Nat => (n : Int))[i]? = some (a : Int) by rw [List.getElem?_map, ha]; rfl)
          have OC8 := hid (fun (out : List Int) (s : σ) (W : World) (F' : Nat → Prop) (h : SqE At w F (.slice (some ⟨b0, o0, none⟩) l.length cp) l (.slice (some ⟨b1, o1, none⟩) l.length oc) ord g r0 out s W F') => (show W.cell? ⟨b1, o1 + i, none⟩ = some (.int .i64 (a : Int)) by
            obtain ⟨b9, o9, e9, _, h9⟩ := h.q.oo.n.at_ (show (ord.map fun n : Nat => (n : Int))[i]? = some (a : Int) by rw [List.getElem?_map, ha]; rfl)
            injection e9 with e9
            injection e9 with e91 e92
            subst e91 e92
            exact h9))
          have k0 : (0 : Int) ≤ (i : Int) := by omega
          have k1 : (i : Int) < (l.length : Int) := by omega
          have k2 : (0 : Int) ≤ (a : Int) := by omega
          have k3 : (a : Int) < (l.length : Int) := by omega
          have d1 : decide ((i : Int) < (l.length : Int)) = true := by simp; omega
          have d2 : decide (i < l.length) = true := by simp; omega
          have hi64 : i < 64 := by omega
          have VB := hid (And.intro hal (And.intro (And.intro hol hvb) hvd))
          have HI := hid (And.intro hik hlt)
          have QR := hid hsq
          have OKR := hid hok1
          have FINR := hid hfin
          have EV := hid (bne_dec v)
          clear hio ha hal hv hvd hvb hik hlt hsq hok1 hfin hol
          by_cases hil : i < l.length - 1
          · have d3 : decide ((i : Int) < (l.length : Int) - 1) = true := by simp; omega
            go_wp2_with fail
            refine (H.bitN _ F1 s1 (base + 1 + min i 7) _ (by omega) (by omega) _ m1 (by exact QR.out.q.cw.a) (by exact OKR.out) (by omega)).mono ?_
            rintro e w7 ⟨rfl, h6, ok6⟩
            obtain ⟨F7, hq6⟩ := QR.out.moved h6
            have Q7 := hid (And.intro hq6 ok6)
            clear h6 hq6 ok6
            rw [EV.out] at Q7 ⊢
            have hst := FINR.out.symm.trans (rsq_in hil)
            rw [VB.out.2.2] at hst
            clear p0 p1
            cases hq : (M.bit s1 (base + 1 + min i 7) (decide (v ≠ 0))).1 with
            | false =>
              rw [if_neg (by rw [hq]; decide)] at hst
              have FIN7 := hid hst
              clear hq hst
              go_wp2_with fail
              go_roundg (gk - 1)
              case measure => have := HI.out; omega
              case rel => exact ⟨i + 1, out, _, F7, by have := HI.out; omega, by go_num, by have := VB.out; omega, Q7.out.1, ⟨m1 + 3, by omega, Q7.out.2⟩, FIN7.out.symm⟩
            | true =>
              rw [if_pos hq] at hst
              have FIN1 := hid hst.symm
              have Q77 := hid Q7.out.1
              have OK1 := hid Q7.out.2
              clear hq hst
              generalize (M.bit s1 (base + 1 + min i 7) (decide (v ≠ 0))).2 = s7 at *
              go_wp2_with fail
              refine (H.flatN _ F7 s7 _ _ (by exact Q77.out.q.cw.a) OK1.out (by omega)).mono ?_
              rintro e w6 ⟨rfl, h6, ok6⟩
              obtain ⟨F6, hq6⟩ := Q77.out.moved h6
              have Q6 := hid (And.intro hq6 ok6)
              clear h6 hq6 ok6
              have RL := hid (run_level M base v s7)
              generalize hdd : (M.flat s7 (decide (v < 0))).1 = dd at *
              generalize hs6 : (M.flat s7 (decide (v < 0))).2 = s6 at *
              clear hdd hs6
              have hvb2 := VB.out.2.1.2
              have hmx : 0 ≤ max v (-v) ∧ max v (-v) ≤ 16320 := by omega
              go_wp2_with fail
              refine (size_any b H base (by omega) (max v (-v) - 1) (by have := VB.out; omega) s6 _ F6 _ (by exact Q6.out.1.q.cw.a) Q6.out.2 (by omega)).mono ?_
              rintro e w8 ⟨rfl, hm8⟩
              obtain ⟨F8, hq8⟩ := Q6.out.1.moved hm8
              obtain ⟨m5, hm5b, hok5⟩ := H.okRun (sizeA base (max v (-v) - 1)) 40 (ctx_size base (by omega) _) (most_size base _) s6 _ Q6.out.2
              have Q8 := hid (And.intro hq8 hok5)
              clear hm8 hq8 hok5
              have hng := all_size base (max v (-v) - 1)
              have hnb := All.run M hng s6
              clear hng
              generalize M.run (sizeA base (max v (-v) - 1)) s6 = z8 at *
              obtain ⟨n8, s5⟩ := z8
              dsimp only at hnb
              have hx5 := RL.out
              dsimp only at hx5
              have HLV := hid (lvOut_if dd n8)
              generalize hx5g : (if dd then -(n8 : Int) - 1 else (n8 : Int) + 1) = x5 at *
              have X5 := hid hx5
              have XG := hid hx5g
              clear hx5 hx5g
              have hn0 : (0 : Int) ≤ (n8 : Int) ∧ (n8 : Int) ≤ 100000 := by omega
              have hout : (lvOut x5 = true ∧ decide (16320 < (n8 : Int) + 1) = true) ∨ (lvOut x5 = false ∧ decide (16320 < (n8 : Int) + 1) = false) := by
                rw [HLV.out]
                cases decide (16320 < (n8 : Int) + 1) <;> simp
              rcases hout with ⟨hlo, hd1⟩ | ⟨hlo, hd1⟩
              · have HF := FIN1.out.symm.trans (lv_out (by rw [VB.out.2.2]; exact X5.out) hlo)
                have FIN5 := hid HF
                clear HF hlo
                go_wp2_with fail
                refine (kwrap_any _ _ 3 _ (by omega)).mono ?_
                rintro e w9 ⟨pv, rfl, hst, hfr, hb9⟩
                obtain ⟨PA, pc, hpv, _⟩ := id hst
                subst hpv
                rw [show ([((⟨#[99, 111, 101, 102]⟩ : ByteArray), (i : Int))] : PathS).length = 1 from rfl] at hst hfr ⊢
                have Q9 := hid (And.intro (Q8.out.1.below H hb9) (And.intro hst (fun k hk => by have := hfr k hk; have := Q8.out.1.e.b.lt; omega : ∀ k, (Value.slice PA 1 pc).ownBlock = some k → k ≠ r0)))
                clear hst hfr hb9
                obtain ⟨e0, e1⟩ := blk2E Q9.out.1.e.b
                have ef0 := Q9.out.1.e.b.frozen 0
                have ef1 := Q9.out.1.e.b.frozen 1
                go_wp2_with fail
                obtain ⟨hc9, _, hk9⟩ := Q9.out.1.fill H (.int .i64 3) (.slice PA 1 pc)
                obtain ⟨h90, h91⟩ := blk2E hk9
                have hst9 := Q9.out.2.1.only (S := fun k => k = r0) (((Only.refl _ _).put (by rfl) 0 (.int .i64 3)).put (by rfl) 1 (.slice PA 1 pc)) (fun k hk e => Q9.out.2.2 k hk e)
                refine bodyPost_ret (v := .tuple #[.slice none 0 0, .agg #[.int .i64 3, .slice PA 1 pc]]) (by simp [results, Tryz.results42, go_sem, h90, h91]) rfl ?_
                refine ⟨F8, ?_⟩
                rw [SQ.out, FIN5.out]
                exact ⟨hc9, RSqAns.bad rfl hst9⟩
              · skip
                go_upto_if 94 with fail
                go_cut [13] from 94 to 96 (fun v W => v = .int .i64 x5 ∧ w8 = W)
                case first =>
                  cases dd
                  all_goals
                    go_wp2_with fail
                    go_meet
                    refine ⟨?_, rfl⟩
                    rw [← XG.out]
                    congr 1 <;> first | rfl | (rw [if_pos trivial]; omega)
                case rest =>
                obtain ⟨rfl, rfl⟩ := hcut
                obtain ⟨old, hold⟩ : ∃ old, out[a]? = some old := ⟨out[a]'(by have := VB.out; omega), List.getElem?_eq_getElem (by have := VB.out; omega)⟩
                have hco := Q8.out.1.q.go.b.cell a
                rw [List.getElem?_toArray, List.getElem?_map, hold] at hco
                have hfo := Q8.out.1.q.go.b.frozen a
                have p2 := OC8.out _ _ _ _ Q8.out.1
                have QP := hid (Q8.out.1.put H a x5)
                have HLO := hid hlo
                clear hold hlo
                simp only [Option.map_some, intV] at hco
                have HF := FIN1.out.symm.trans (lv_in (by rw [VB.out.2.2]; exact X5.out) HLO.out hil)
                have FIN5 := hid HF
                clear HF
                go_wp2_with fail
                clear hco hfo p2
                refine (rest_any _ _ l ord (i + 1) _ (by omega) _ (by exact QP.out.q.xo.n) (by exact QP.out.q.oo.n) OL.out.2 (by have := OL.out.1; omega) (by have := OL.out.1; omega)).mono ?_
                rintro e w9 ⟨rfl, rfl⟩
                go_wp2_with fail
                refine (H.bitN _ F8 s5 (base + 9 + min i 7) _ (by omega) (by omega) _ m5 (by exact QP.out.q.cw.a) (by exact Q8.out.2) (by omega)).mono ?_
                rintro e w10 ⟨rfl, h7, ok7⟩
                obtain ⟨F10, hq7⟩ := QP.out.moved h7
                have Q10 := hid (And.intro hq7 ok7)
                clear h7 hq7 ok7
                cases hq : (M.bit s5 (base + 9 + min i 7) (restZ l (ord.drop (i + 1)))).1 with
                | true =>
                  have FIN7 := hid (FIN5.out.trans (if_pos hq))
                  have Q11 := hid Q10.out.1
                  clear hq
                  obtain ⟨e0, e1⟩ := blk2E Q11.out.e.b
                  have ef0 := Q11.out.e.b.frozen 0
                  have ef1 := Q11.out.e.b.frozen 1
                  go_wp2_with fail
                  obtain ⟨hc9, hb9, hk9⟩ := Q11.out.fill H (.int .i64 0) (.slice none 0 0)
                  obtain ⟨h90, h91⟩ := blk2E hk9
                  exact bodyPost_ret (v := .tuple #[.slice (some ⟨g, 0, none⟩) l.length l.length, .agg #[.int .i64 0, .slice none 0 0]]) (by simp [results, Tryz.results42, go_sem, h90, h91]) rfl ⟨F10, by rw [SQ.out, FIN7.out]; exact ⟨hc9, RSqAns.told rfl (by rw [List.length_set]; have := VB.out; omega) hb9⟩⟩
                | false =>
                  have FIN7 := hid (FIN5.out.trans (if_neg (by rw [hq]; decide)))
                  clear hq
                  go_wp2_with fail
                  go_roundg (gk - 1)
                  case measure => have := HI.out; omega
                  case rel => exact ⟨i + 1, out.set a x5, _, F10, by have := HI.out; omega, by go_num, by rw [List.length_set]; have := VB.out; omega, Q10.out.1, ⟨m5 + 3, by omega, Q10.out.2⟩, FIN7.out.symm⟩
          · have d3 : decide ((i : Int) < (l.length : Int) - 1) = false := by simp; omega
            have FIN1 := hid ((rsq_last hil).symm.trans FINR.out)
            have OK1 := hid OKR.out
            obtain ⟨w7, hw7⟩ : ∃ q, q = wr := ⟨_, rfl⟩
            subst hw7
            go_wp2_with fail
            refine (H.flatN _ F1 s1 _ _ (by exact QR.out.q.cw.a) OK1.out (by omega)).mono ?_
            rintro e w6 ⟨rfl, h6, ok6⟩
            obtain ⟨F6, hq6⟩ := QR.out.moved h6
            have Q6 := hid (And.intro hq6 ok6)
            clear h6 hq6 ok6
            have RL := hid (run_level M base v s1)
            generalize hdd : (M.flat s1 (decide (v < 0))).1 = dd at *
            generalize hs6 : (M.flat s1 (decide (v < 0))).2 = s6 at *
            clear hdd hs6
            have hvb2 := VB.out.2.1.2
            have hmx : 0 ≤ max v (-v) ∧ max v (-v) ≤ 16320 := by omega
            go_wp2_with fail
            refine (size_any b H base (by omega) (max v (-v) - 1) (by have := VB.out; omega) s6 _ F6 _ (by exact Q6.out.1.q.cw.a) Q6.out.2 (by omega)).mono ?_
            rintro e w8 ⟨rfl, hm8⟩
            obtain ⟨F8, hq8⟩ := Q6.out.1.moved hm8
            obtain ⟨m5, hm5b, hok5⟩ := H.okRun (sizeA base (max v (-v) - 1)) 40 (ctx_size base (by omega) _) (most_size base _) s6 _ Q6.out.2
            have Q8 := hid (And.intro hq8 hok5)
            clear hm8 hq8 hok5
            have hng := all_size base (max v (-v) - 1)
            have hnb := All.run M hng s6
            clear hng
            generalize M.run (sizeA base (max v (-v) - 1)) s6 = z8 at *
            obtain ⟨n8, s5⟩ := z8
            dsimp only at hnb
            have hx5 := RL.out
            dsimp only at hx5
            have HLV := hid (lvOut_if dd n8)
            generalize hx5g : (if dd then -(n8 : Int) - 1 else (n8 : Int) + 1) = x5 at *
            have X5 := hid hx5
            have XG := hid hx5g
            clear hx5 hx5g
            have hn0 : (0 : Int) ≤ (n8 : Int) ∧ (n8 : Int) ≤ 100000 := by omega
            have hout : (lvOut x5 = true ∧ decide (16320 < (n8 : Int) + 1) = true) ∨ (lvOut x5 = false ∧ decide (16320 < (n8 : Int) + 1) = false) := by
              rw [HLV.out]
              cases decide (16320 < (n8 : Int) + 1) <;> simp
            rcases hout with ⟨hlo, hd1⟩ | ⟨hlo, hd1⟩
            · have HF := FIN1.out.symm.trans (lv_out (by rw [VB.out.2.2]; exact X5.out) hlo)
              have FIN5 := hid HF
              clear HF hlo
              go_wp2_with fail
              refine (kwrap_any _ _ 3 _ (by omega)).mono ?_
              rintro e w9 ⟨pv, rfl, hst, hfr, hb9⟩
              obtain ⟨PA, pc, hpv, _⟩ := id hst
              subst hpv
              rw [show ([((⟨#[99, 111, 101, 102]⟩ : ByteArray), (i : Int))] : PathS).length = 1 from rfl] at hst hfr ⊢
              have Q9 := hid (And.intro (Q8.out.1.below H hb9) (And.intro hst (fun k hk => by have := hfr k hk; have := Q8.out.1.e.b.lt; omega : ∀ k, (Value.slice PA 1 pc).ownBlock = some k → k ≠ r0)))
              clear hst hfr hb9
              obtain ⟨e0, e1⟩ := blk2E Q9.out.1.e.b
              have ef0 := Q9.out.1.e.b.frozen 0
              have ef1 := Q9.out.1.e.b.frozen 1
              go_wp2_with fail
              obtain ⟨hc9, _, hk9⟩ := Q9.out.1.fill H (.int .i64 3) (.slice PA 1 pc)
              obtain ⟨h90, h91⟩ := blk2E hk9
              have hst9 := Q9.out.2.1.only (S := fun k => k = r0) (((Only.refl _ _).put (by rfl) 0 (.int .i64 3)).put (by rfl) 1 (.slice PA 1 pc)) (fun k hk e => Q9.out.2.2 k hk e)
              refine bodyPost_ret (v := .tuple #[.slice none 0 0, .agg #[.int .i64 3, .slice PA 1 pc]]) (by simp [results, Tryz.results42, go_sem, h90, h91]) rfl ?_
              refine ⟨F8, ?_⟩
              rw [SQ.out, FIN5.out]
              exact ⟨hc9, RSqAns.bad rfl hst9⟩
            · skip
              go_upto_if 94 with fail
              go_cut [13] from 94 to 96 (fun v W => v = .int .i64 x5 ∧ w8 = W)
              case first =>
                cases dd
                all_goals
                  go_wp2_with fail
                  go_meet
                  refine ⟨?_, rfl⟩
                  rw [← XG.out]
                  congr 1 <;> first | rfl | (rw [if_pos trivial]; omega)
              case rest =>
              obtain ⟨rfl, rfl⟩ := hcut
              obtain ⟨old, hold⟩ : ∃ old, out[a]? = some old := ⟨out[a]'(by have := VB.out; omega), List.getElem?_eq_getElem (by have := VB.out; omega)⟩
              have hco := Q8.out.1.q.go.b.cell a
              rw [List.getElem?_toArray, List.getElem?_map, hold] at hco
              have hfo := Q8.out.1.q.go.b.frozen a
              have p2 := OC8.out _ _ _ _ Q8.out.1
              have QP := hid (Q8.out.1.put H a x5)
              have HLO := hid hlo
              clear hold hlo
              simp only [Option.map_some, intV] at hco
              have HF := FIN1.out.symm.trans (lv_last (by rw [VB.out.2.2]; exact X5.out) HLO.out hil)
              have FIN5 := hid HF
              clear HF
              go_wp2_with fail
              go_roundg (gk - 1)
              case measure => have := HI.out; omega
              case rel => exact ⟨i + 1, out.set a x5, s5, F8, by have := HI.out; omega, by go_num, by rw [List.length_set]; have := VB.out; omega, QP.out, ⟨m5, by omega, Q8.out.2⟩, FIN5.out.symm⟩
        · obtain rfl : i = l.length := by omega
          have d9 : decide ((l.length : Int) < (l.length : Int)) = false := by simp
          have hdr : ord.drop l.length = [] := by rw [← OL.out.1]; exact List.drop_length
          rw [hdr] at hfin
          have Q11 := hid hsq
          have QE := hid (And.intro hol hfin.symm)
          clear hlt hik hfin hsq hol hok1 hdr
          obtain ⟨e0, e1⟩ := blk2E Q11.out.e.b
          have ef0 := Q11.out.e.b.frozen 0
          have ef1 := Q11.out.e.b.frozen 1
          go_wp2_with fail
          obtain ⟨hc9, hb9, hk9⟩ := Q11.out.fill H (.int .i64 0) (.slice none 0 0)
          obtain ⟨h90, h91⟩ := blk2E hk9
          exact bodyPost_ret (v := .tuple #[.slice (some ⟨g, 0, none⟩) l.length l.length, .agg #[.int .i64 0, .slice none 0 0]]) (by simp [results, Tryz.results42, go_sem, h90, h91]) rfl ⟨F1, by rw [SQ.out, QE.out.2]; exact ⟨hc9, RSqAns.told rfl QE.out.1 hb9⟩⟩
end
end Go.Proofs.YtkkgpdejmcpcpaaGreatDoor

