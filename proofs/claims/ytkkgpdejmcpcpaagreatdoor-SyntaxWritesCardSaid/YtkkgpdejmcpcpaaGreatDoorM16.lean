/- Parts: XCoefW. -/
import Derived.Test.YtkkgpdejmcpcpaaGreatDoorM09
import Derived.Test.YtkkgpdejmcpcpaaGreatDoorM15
import Derived.Deep.RegionHeldLaw
import Derived.BigQuiet
/- Chapter 14: numbers at whatever coder: great, level; the document's size. -/
namespace Go.Proofs.YtkkgpdejmcpcpaaGreatDoor
open Go.RowKit
/-- It is no nil pointer. -/
structure Speaks2 (T : TypeId) (p : Value) : Prop where
  nilBit : ∀ w : World, (nilAhead 319 T p "Bit").run Tryz.prog w = .ok (some false) w
  nilFlat : ∀ w : World, (nilAhead 319 T p "Flat").run Tryz.prog w = .ok (some false) w
theorem wr_speaks2 (b : Nat) : Speaks2 25 (.pointer (some ⟨b, 0, none⟩)) := ⟨fun _ => by kernel_rfl, fun _ => by kernel_rfl⟩
theorem rd_speaks2 (b : Nat) : Speaks2 61 (.pointer (some ⟨b, 0, none⟩)) := ⟨fun _ => by kernel_rfl, fun _ => by kernel_rfl⟩
section
variable {σ : Type} {M : Mach σ} {fB fF : FuncId} {At : World → (Nat → Prop) → σ → Prop} {Ok : σ → Nat → Prop}

theorem IsCoder.okRun {α : Type} {me : Value} (H : IsCoder M fB fF me At Ok) (p : Ask α) : ∀ (n : Nat), p.Ctx → p.Most n → ∀ (s : σ) (lim : Nat), Ok s lim → ∃ m, m ≤ lim + 3 * n ∧ Ok (M.run p s).2 m := by
  induction p with
  | ret a => intro n _ _ s lim h; exact ⟨lim, by omega, h⟩
  | bit c u k ih =>
    intro n hc hm s lim h
    cases n with
    | zero => exact absurd hm (fun h => h)
    | succ n =>
      have h1 := H.okBit s (c : Int) u lim h
      rw [Mach.anyBit_nat _ _ _ _ hc.1] at h1
      obtain ⟨m, hm', h2⟩ := ih _ n (hc.2 _) (hm _) (M.bit s c u).2 _ h1
      exact ⟨m, by omega, h2⟩
  | flat u k ih =>
    intro n hc hm s lim h
    cases n with
    | zero => exact absurd hm (fun h => h)
    | succ n =>
      have h1 := H.okFlat s u lim h
      obtain ⟨m, hm', h2⟩ := ih _ n (hc _) (hm _) (M.flat s u).2 _ h1
      exact ⟨m, by omega, h2⟩
theorem Moved.belowW {me : Value} (H : IsCoder M fB fF me At Ok) {w W W' : World} {F : Nat → Prop} {s : σ} (h : Moved At w F s W) (hb : Below W.heap.size W W') : Moved At w F s W' := by
  obtain ⟨F1, a1, o1, f1⟩ := h
  exact ⟨F1, H.keep _ _ F1 (fun _ => False) s a1 (Only.of_below hb) (fun _ _ h => h), ⟨hb.os.trans o1.os, hb.tape.trans o1.tape, hb.output.trans o1.output, Nat.le_trans o1.size hb.size, fun k hk hn => (hb.block k (by have := o1.size; omega)).trans (o1.block k hk hn)⟩, f1⟩
/-- A number from 0 on, coded. -/
def CodedN (At : World → (Nat → Prop) → σ → Prop) (w : World) (F : Nat → Prop) (x : Nat × σ) (e : Ending) (w' : World) : Prop := e = .returned (.int .i64 (x.1 : Nat)) ∧ Moved At w F x.2 w'
def CodedI (At : World → (Nat → Prop) → σ → Prop) (w : World) (F : Nat → Prop) (x : Int × σ) (e : Ending) (w' : World) : Prop := e = .returned (.int .i64 x.1) ∧ Moved At w F x.2 w'
/-- The state of a loop of bits: n so far; what comes is fin. -/
def BitsRel {α : Type} (M : Mach σ) (At : World → (Nat → Prop) → σ → Prop) (Ok : σ → Nat → Prop) (A : Nat → Nat → Ask α) (top lim : Nat) (fin : α × σ) (w0 : World) (F : Nat → Prop) (j : Nat) (i : Value) (wr : World) : Prop :=
  ∃ (n : Nat) (s' : σ), n + j = top ∧ i = .int .i64 n ∧ Moved At w0 F s' wr ∧ Ok s' (lim + 3 * n) ∧ M.run (A j n) s' = fin
theorem pow_cast (z : Nat) : ((2 ^ z : Nat) : Int) = (2 : Int) ^ z := by simp
theorem runz_yes {u : Int} {k z : Nat} {s : σ} (h : (M.flat s (decide ((2 : Int) ^ (z + 1) ≤ u))).1 = true) : M.run (zerosA u (k + 1) z) s = M.run (zerosA u k (z + 1)) (M.flat s (decide ((2 : Int) ^ (z + 1) ≤ u))).2 := by
  rw [zerosA, run_flat, pow_cast, if_pos h]
theorem runz_no {u : Int} {k z : Nat} {s : σ} (h : (M.flat s (decide ((2 : Int) ^ (z + 1) ≤ u))).1 = false) : M.run (zerosA u (k + 1) z) s = (z, (M.flat s (decide ((2 : Int) ^ (z + 1) ≤ u))).2) := by
  rw [zerosA, run_flat, pow_cast, if_neg (by rw [h]; decide)]; rfl
theorem runo_yes {f : Nat → Nat} {v : Int} {k n : Nat} {s : σ} (h : (M.bit s (f n) (decide ((n : Int) < v))).1 = true) : M.run (onesA f v (k + 1) n) s = M.run (onesA f v k (n + 1)) (M.bit s (f n) (decide ((n : Int) < v))).2 := by
  rw [onesA, run_bit, if_pos h]
theorem runo_no {f : Nat → Nat} {v : Int} {k n : Nat} {s : σ} (h : (M.bit s (f n) (decide ((n : Int) < v))).1 = false) : M.run (onesA f v (k + 1) n) s = (n, (M.bit s (f n) (decide ((n : Int) < v))).2) := by
  rw [onesA, run_bit, if_neg (by rw [h]; decide)]; rfl
theorem lowB (u : Int) (j : Nat) : (u / (2 : Int) ^ j % 2 == 1) = lowBit u j := by
  unfold lowBit
  rw [pow_cast]
  rfl
theorem runl (u : Int) (k n : Nat) (s : σ) : M.run (lowsA u (k + 1) n) s = M.run (lowsA u k (2 * n + if (M.flat s (lowBit u k)).1 then 1 else 0)) (M.flat s (lowBit u k)).2 := rfl
set_option maxRecDepth 100000 in
set_option maxHeartbeats 4000000 in
theorem great_any (b : Nat) (T : TypeId) (H : IsCoder M fB fF (.pointer (some ⟨b, 0, none⟩)) At Ok) (Sp : Speaks T (.pointer (some ⟨b, 0, none⟩)) fB fF) (Sp2 : Speaks2 T (.pointer (some ⟨b, 0, none⟩))) (u : Int) (_ : -1000000 ≤ u ∧ u ≤ 1000000) (s : σ) (w : World) (F : Nat → Prop) (lim : Nat) (hs : At w F s) (ho : Ok s lim) (hl : lim + 200 ≤ 1000000000) :
    Calls Tryz.prog 96 #[.iface T (.pointer (some ⟨b, 0, none⟩)), .int .i64 u] w (CodedN At w F (M.run (greatA u) s)) := by
  have S := hid (And.intro hs ho)
  have hm := Sp.flat
  have hcb := Sp.callFlat
  have hnl := Sp2.nilFlat
  have hand := and_one_gen
  have HG := hid (run_bind M (zerosA u 13 0) (fun z => lowsA u z 1) s)
  clear hs ho
  go_enter Tryz.func96, Tryz.ntmps96
  go_wp2_with fail
  go_loopg [5] 13 (fun j i wr => BitsRel M At Ok (zerosA u) 13 lim (M.run (zerosA u 13 0) s) w F j i wr)
  case atStart => exact ⟨0, s, rfl, rfl, Moved.refl S.out.1, S.out.2, rfl⟩
  case round =>
    obtain ⟨z, s', hz, rfl, hmv, ho, hfin⟩ := hrel
    have X := hid (And.intro hmv (And.intro ho hfin))
    clear hmv ho hfin
    by_cases h3 : z < 13
    · obtain ⟨j, rfl⟩ : ∃ j, gk = j + 1 := ⟨gk - 1, by omega⟩
      have hsh := wrap_pow z (by omega)
      have d1 : decide ((z : Int) < 13) = true := by simp; omega
      obtain ⟨F1, a1, o1, f1⟩ := X.out.1.belowW H (Below.refl wr.heap.size wr).drew
      have Y := hid (And.intro a1 (And.intro o1 f1))
      clear a1 o1 f1
      have hd : decide (((2 ^ (z + 1) : Nat) : Int) ≤ u) = true ∨ decide (((2 ^ (z + 1) : Nat) : Int) ≤ u) = false := by cases decide (((2 ^ (z + 1) : Nat) : Int) ≤ u) <;> simp
      go_wp2_with fail
      go_region_held_law (fun _ => True) (exact trivial)
        (first
          | (refine (H.flatN _ F1 s' _ _ (by exact Y.out.1) X.out.2.1 (by omega)).mono ?_
             rintro e w2 ⟨rfl, h2, ok2⟩
             have Z := hid (And.intro (Moved.step Y.out.2.1 Y.out.2.2 h2) ok2)
             clear h2 ok2))
      clear hd hsh
      cases hq : (M.flat s' (decide ((2 : Int) ^ (z + 1) ≤ u))).1 with
      | true =>
        have Q := hid hq
        clear hq
        go_wp2_with fail
        obtain ⟨z1, z2⟩ := Z.out
        go_roundg j
        case measure => omega
        case rel => exact ⟨z + 1, _, by omega, by go_num, z1, by rw [show lim + 3 * (z + 1) = lim + 3 * z + 3 by omega]; exact z2, by rw [← X.out.2.2, runz_yes Q.out]⟩
      | false =>
        have e : M.run (zerosA u 13 0) s = (z, (M.flat s' (decide ((2 : Int) ^ (z + 1) ≤ u))).2) := by rw [← X.out.2.2, runz_no hq]
        have EZ := hid e
        have MV := hid (And.intro Z.out.1 (And.intro (⟨lim + 3 * z + 3, by omega, Z.out.2⟩ : ∃ m, m ≤ lim + 42 ∧ Ok (M.flat s' (decide ((2 : Int) ^ (z + 1) ≤ u))).2 m) (show z ≤ 13 by omega)))
        clear hq e
        generalize (M.flat s' (decide ((2 : Int) ^ (z + 1) ≤ u))).2 = s1 at *
        have HF := HG.out
        rw [EZ.out] at HF
        have FIN := hid (show M.run (greatA u) s = M.run (lowsA u z 1) s1 from HF)
        obtain ⟨m, hm42, hok⟩ := MV.out.2.1
        have OK1 := hid hok
        clear HF hok
        go_wp2_with fail
        go_loopg [6, 7] z (fun j nv kv wr => ∃ (n : Nat) (kk : Int) (s' : σ), nv = .int .i64 n ∧ kv = .int .i64 kk ∧ kk = (j : Int) - 1 ∧ j ≤ z ∧ n + 1 ≤ 2 ^ (z - j + 1) ∧ Moved At w F s' wr ∧ Ok s' (m + 3 * (z - j)) ∧ M.run (lowsA u j n) s' = M.run (lowsA u z 1) s1)
        case atStart => exact ⟨1, (z : Int) - 1, s1, rfl, by first | rfl | go_num, rfl, Nat.le_refl _, by rw [Nat.sub_self]; omega, by first | exact MV.out.1 | exact MV.out.1.belowW H ⟨rfl, rfl, rfl, Nat.le_refl _, fun _ _ => rfl⟩, by rw [Nat.sub_self]; exact OK1.out, rfl⟩
        case round =>
          obtain ⟨n, kk, s2, rfl, rfl, hkk, hjz, hn, hmv, hok2, hfin⟩ := hrel
          have X2 := hid (And.intro hmv (And.intro hok2 hfin))
          have hz13 := MV.out.2.2
          have hnb : 2 ^ (z - gk + 1) ≤ 2 ^ 14 := Nat.pow_le_pow_right (by omega) (by omega)
          have hn2 : n ≤ 16384 := by omega
          clear hmv hok2 hfin
          by_cases h0 : 0 < gk
          · obtain ⟨j, rfl⟩ : ∃ j, gk = j + 1 := ⟨gk - 1, by omega⟩
            obtain rfl : kk = (j : Int) := by omega
            have HN := hid (And.intro hn (And.intro hjz hn2))
            have hn0 : (0 : Int) ≤ (n : Int) ∧ (n : Int) ≤ 16384 := by omega
            have hj13 : (0 : Int) ≤ (j : Int) ∧ (j : Int) ≤ 13 := by omega
            have LB := hid (lowB u j)
            clear hkk hn hjz hn2 hnb h0 hz13
            obtain ⟨F2, a2, o2, f2⟩ := X2.out.1.belowW H (Below.refl wr.heap.size wr).drew
            have Y2 := hid (And.intro a2 (And.intro o2 f2))
            clear a2 o2 f2
            go_wp2_with fail
            go_region_held_law (fun _ => True) (exact trivial)
              (first
                | (refine (H.flatN _ F2 s2 _ _ (by exact Y2.out.1) X2.out.2.1 (by omega)).mono ?_
                   rintro e w3 ⟨rfl, h2, ok2⟩
                   have Z2 := hid (And.intro (Moved.step Y2.out.2.1 Y2.out.2.2 h2) ok2)
                   clear h2 ok2))
            rw [LB.out] at *
            cases hq2 : (M.flat s2 (lowBit u j)).1
            · have Q2 := hid hq2
              clear hq2
              go_wp2_with fail
              obtain ⟨z1, z2⟩ := Z2.out
              obtain ⟨n1, n2, n3⟩ := HN.out
              go_roundg j
              case measure => omega
              case rel =>
                refine ⟨2 * n, (j : Int) - 1, (M.flat s2 (lowBit u j)).2, by go_num, by first | rfl | go_num, rfl, by omega, ?_, z1, ?_, ?_⟩
                · rw [show z - j + 1 = (z - (j + 1) + 1) + 1 by omega, Nat.pow_succ]
                  omega
                · rw [show m + 3 * (z - j) = m + 3 * (z - (j + 1)) + 3 by omega]
                  exact z2
                · rw [← X2.out.2.2, runl, Q2.out]
                  rfl
            · have Q2 := hid hq2
              clear hq2
              go_wp2_with fail
              obtain ⟨z1, z2⟩ := Z2.out
              obtain ⟨n1, n2, n3⟩ := HN.out
              go_roundg j
              case measure => omega
              case rel =>
                refine ⟨2 * n + 1, (j : Int) - 1, (M.flat s2 (lowBit u j)).2, by go_num, by first | rfl | go_num, rfl, by omega, ?_, z1, ?_, ?_⟩
                · rw [show z - j + 1 = (z - (j + 1) + 1) + 1 by omega, Nat.pow_succ]
                  omega
                · rw [show m + 3 * (z - j) = m + 3 * (z - (j + 1)) + 3 by omega]
                  exact z2
                · rw [← X2.out.2.2, runl, Q2.out]
                  rfl
          · obtain rfl : gk = 0 := by omega
            obtain rfl : kk = -1 := by omega
            clear hkk hn hjz hnb h0 hz13
            go_wp2_with fail
            go_ret
            have e : M.run (lowsA u z 1) s1 = (n, s2) := X2.out.2.2.symm
            rw [FIN.out, e]
            exact ⟨rfl, X2.out.1⟩
    · have hz13 : z = 13 := by omega
      obtain rfl : gk = 0 := by omega
      have d1 : decide ((z : Int) < 13) = false := by simp; omega
      have e : M.run (zerosA u 13 0) s = (z, s') := by rw [← X.out.2.2]; rfl
      have EZ := hid e
      have MV := hid (And.intro X.out.1 (And.intro (⟨lim + 3 * z, by omega, X.out.2.1⟩ : ∃ m, m ≤ lim + 42 ∧ Ok s' m) (show z ≤ 13 by omega)))
      have hzb : (0 : Int) ≤ (z : Int) ∧ (z : Int) ≤ 13 := by omega
      clear e h3 hz hz13
      obtain ⟨s1, hs1⟩ : ∃ q, q = s' := ⟨_, rfl⟩
      subst hs1
      go_wp2_with fail
      go_quiet (fail)
      have HF := HG.out
      rw [EZ.out] at HF
      have FIN := hid (show M.run (greatA u) s = M.run (lowsA u z 1) s1 from HF)
      obtain ⟨m, hm42, hok⟩ := MV.out.2.1
      have OK1 := hid hok
      clear HF hok
      go_wp2_with fail
      go_loopg [6, 7] z (fun j nv kv wr => ∃ (n : Nat) (kk : Int) (s' : σ), nv = .int .i64 n ∧ kv = .int .i64 kk ∧ kk = (j : Int) - 1 ∧ j ≤ z ∧ n + 1 ≤ 2 ^ (z - j + 1) ∧ Moved At w F s' wr ∧ Ok s' (m + 3 * (z - j)) ∧ M.run (lowsA u j n) s' = M.run (lowsA u z 1) s1)
      case atStart => exact ⟨1, (z : Int) - 1, s1, rfl, by first | rfl | go_num, rfl, Nat.le_refl _, by rw [Nat.sub_self]; omega, by first | exact MV.out.1 | exact MV.out.1.belowW H ⟨rfl, rfl, rfl, Nat.le_refl _, fun _ _ => rfl⟩, by rw [Nat.sub_self]; exact OK1.out, rfl⟩
      case round =>
        obtain ⟨n, kk, s2, rfl, rfl, hkk, hjz, hn, hmv, hok2, hfin⟩ := hrel
        have X2 := hid (And.intro hmv (And.intro hok2 hfin))
        have hz13 := MV.out.2.2
        have hnb : 2 ^ (z - gk + 1) ≤ 2 ^ 14 := Nat.pow_le_pow_right (by omega) (by omega)
        have hn2 : n ≤ 16384 := by omega
        clear hmv hok2 hfin
        by_cases h0 : 0 < gk
        · obtain ⟨j, rfl⟩ : ∃ j, gk = j + 1 := ⟨gk - 1, by omega⟩
          obtain rfl : kk = (j : Int) := by omega
          have HN := hid (And.intro hn (And.intro hjz hn2))
          have hn0 : (0 : Int) ≤ (n : Int) ∧ (n : Int) ≤ 16384 := by omega
          have hj13 : (0 : Int) ≤ (j : Int) ∧ (j : Int) ≤ 13 := by omega
          have LB := hid (lowB u j)
          clear hkk hn hjz hn2 hnb h0 hz13
          obtain ⟨F2, a2, o2, f2⟩ := X2.out.1.belowW H (Below.refl wr.heap.size wr).drew
          have Y2 := hid (And.intro a2 (And.intro o2 f2))
          clear a2 o2 f2
          go_wp2_with fail
          go_region_held_law (fun _ => True) (exact trivial)
            (first
              | (refine (H.flatN _ F2 s2 _ _ (by exact Y2.out.1) X2.out.2.1 (by omega)).mono ?_
                 rintro e w3 ⟨rfl, h2, ok2⟩
                 have Z2 := hid (And.intro (Moved.step Y2.out.2.1 Y2.out.2.2 h2) ok2)
                 clear h2 ok2))
          rw [LB.out] at *
          cases hq2 : (M.flat s2 (lowBit u j)).1
          · have Q2 := hid hq2
            clear hq2
            go_wp2_with fail
            obtain ⟨z1, z2⟩ := Z2.out
            obtain ⟨n1, n2, n3⟩ := HN.out
            go_roundg j
            case measure => omega
            case rel =>
              refine ⟨2 * n, (j : Int) - 1, (M.flat s2 (lowBit u j)).2, by go_num, by first | rfl | go_num, rfl, by omega, ?_, z1, ?_, ?_⟩
              · rw [show z - j + 1 = (z - (j + 1) + 1) + 1 by omega, Nat.pow_succ]
                omega
              · rw [show m + 3 * (z - j) = m + 3 * (z - (j + 1)) + 3 by omega]
                exact z2
              · rw [← X2.out.2.2, runl, Q2.out]
                rfl
          · have Q2 := hid hq2
            clear hq2
            go_wp2_with fail
            obtain ⟨z1, z2⟩ := Z2.out
            obtain ⟨n1, n2, n3⟩ := HN.out
            go_roundg j
            case measure => omega
            case rel =>
              refine ⟨2 * n + 1, (j : Int) - 1, (M.flat s2 (lowBit u j)).2, by go_num, by first | rfl | go_num, rfl, by omega, ?_, z1, ?_, ?_⟩
              · rw [show z - j + 1 = (z - (j + 1) + 1) + 1 by omega, Nat.pow_succ]
                omega
              · rw [show m + 3 * (z - j) = m + 3 * (z - (j + 1)) + 3 by omega]
                exact z2
              · rw [← X2.out.2.2, runl, Q2.out]
                rfl
        · obtain rfl : gk = 0 := by omega
          obtain rfl : kk = -1 := by omega
          clear hkk hn hjz hnb h0 hz13
          go_wp2_with fail
          go_ret
          have e : M.run (lowsA u z 1) s1 = (n, s2) := X2.out.2.2.symm
          rw [FIN.out, e]
          exact ⟨rfl, X2.out.1⟩
theorem all_lows (u : Int) : ∀ k n, (lowsA u k n).All fun g => g + 1 ≤ (n + 1) * 2 ^ k := by
  intro k
  induction k with
  | zero => intro n; show n + 1 ≤ (n + 1) * 2 ^ 0; omega
  | succ k ih =>
    intro n b
    have h := ih (2 * n + if b then 1 else 0)
    have hm : ∀ {α : Type} {P Q : α → Prop} {p : Ask α}, p.All P → (∀ a, P a → Q a) → p.All Q := by
      intro α P Q p hp hq
      induction p with
      | ret a => exact hq a hp
      | bit c u k ih => exact fun b => ih b (hp b)
      | flat u k ih => exact fun b => ih b (hp b)
    refine hm h fun g hg => ?_
    have h2 : (2 * n + (if b then 1 else 0) + 1) * 2 ^ k ≤ (2 * n + 1 + 1) * 2 ^ k := Nat.mul_le_mul_right _ (by split <;> omega)
    have h3 : (2 * n + 1 + 1) * 2 ^ k = (n + 1) * 2 ^ (k + 1) := by rw [Nat.pow_succ, ← Nat.mul_assoc, Nat.mul_right_comm]; congr 1; omega
    omega
theorem all_great (u : Int) : (greatA u).All fun g => g + 1 ≤ 2 * 2 ^ 13 := All.bind (all_zeros u 13 0) fun z hz => by
  have h := all_lows u z 1
  have hm : ∀ {α : Type} {P Q : α → Prop} {p : Ask α}, p.All P → (∀ a, P a → Q a) → p.All Q := by
    intro α P Q p hp hq
    induction p with
    | ret a => exact hq a hp
    | bit c u k ih => exact fun b => ih b (hp b)
    | flat u k ih => exact fun b => ih b (hp b)
  refine hm h fun g hg => ?_
  have : (2 : Nat) ^ z ≤ 2 ^ 13 := Nat.pow_le_pow_right (by omega) (by omega)
  omega
set_option maxRecDepth 100000 in
set_option maxHeartbeats 4000000 in
theorem level_any (b : Nat) (T : TypeId) (H : IsCoder M fB fF (.pointer (some ⟨b, 0, none⟩)) At Ok) (Sp : Speaks T (.pointer (some ⟨b, 0, none⟩)) fB fF) (Sp2 : Speaks2 T (.pointer (some ⟨b, 0, none⟩))) (base : Nat) (hb : base ≤ 39) (v : Int) (hv : -100000 ≤ v ∧ v ≤ 100000) (s : σ) (w : World) (F : Nat → Prop) (lim : Nat) (hs : At w F s) (ho : Ok s lim) (hl : lim + 300 ≤ 1000000000) :
    Calls Tryz.prog 84 #[.iface T (.pointer (some ⟨b, 0, none⟩)), .int .i64 (base : Int), .int .i64 v] w (CodedI At w F (M.run (levelA base v) s)) := by
  have S := hid (And.intro hs ho)
  have hm := Sp.bit
  have hcb := Sp.callBit
  have hm2 := Sp.flat
  have hcb2 := Sp.callFlat
  have HV := hid (And.intro hv hb)
  clear hs ho
  go_enter Tryz.func84, Tryz.ntmps84
  go_wp2_with fail
  refine (H.flatN _ F s _ _ S.out.1 S.out.2 (by omega)).mono ?_
  rintro e w2 ⟨rfl, h2, ok2⟩
  obtain ⟨F2, a2, o2, f2⟩ := h2
  have Z := hid (And.intro a2 (And.intro o2 (And.intro f2 ok2)))
  clear a2 o2 f2 ok2
  have hlv : M.run (levelA base v) s = M.run ((sizeA base (max v (-v) - 1)).bind fun n => .ret (if (M.flat s (decide (v < 0))).1 then -(n : Int) - 1 else (n : Int) + 1)) (M.flat s (decide (v < 0))).2 := rfl
  have LV := hid hlv
  clear hlv
  generalize hdn : (M.flat s (decide (v < 0))).1 = dn at *
  have DN := hid hdn
  clear hdn
  generalize hs2 : (M.flat s (decide (v < 0))).2 = s2 at *
  have HS2 := hid hs2
  clear hs2
  have hmx : 0 ≤ max v (-v) ∧ max v (-v) ≤ 100000 := by omega
  go_wp2_with fail
  have hkb : -1 ≤ max v (-v) - 1 ∧ max v (-v) - 1 ≤ 100000 := by omega
  generalize max v (-v) - 1 = kk at *
  clear hmx
  have SB := hid (run_bind M (sizeA base kk) (fun n => (.ret (if dn then -(n : Int) - 1 else (n : Int) + 1) : Ask Int)) s2)
  have SZ := hid (run_bind M (onesA (sizeCtx base) kk 14 0) (fun n => if n = 14 then (greatA (kk - 13)).bind fun g => .ret (13 + g) else .ret n) s2)
  go_loopg [9] 14 (fun j i wr => BitsRel M At Ok (onesA (sizeCtx base) kk) 14 (lim + 3) (M.run (onesA (sizeCtx base) kk 14 0) s2) w F j i wr)
  case atStart => exact ⟨0, s2, rfl, rfl, ⟨F2, Z.out.1, Z.out.2.1, Z.out.2.2.1⟩, Z.out.2.2.2, rfl⟩
  case round =>
    obtain ⟨n, s', hn, rfl, hmv, ho, hfin⟩ := hrel
    have X := hid (And.intro hmv (And.intro ho hfin))
    clear hmv ho hfin
    have hdn2 : dn = true ∨ dn = false := by cases dn <;> simp
    by_cases h3 : n < 14
    · obtain ⟨j, rfl⟩ : ∃ j, gk = j + 1 := ⟨gk - 1, by omega⟩
      have d1 : decide ((n : Int) < 14) = true := by simp; omega
      obtain ⟨F3, a3, o3, f3⟩ := X.out.1
      have Y3 := hid (And.intro a3 (And.intro o3 f3))
      clear a3 o3 f3
      go_wp2_with fail
      refine (H.bitN _ F3 s' (sizeCtx base n) _ (by unfold sizeCtx; omega) (by unfold sizeCtx; omega) _ _ Y3.out.1 X.out.2.1 (by omega)).mono ?_
      rintro e w3 ⟨rfl, h3, ok3⟩
      have Z3 := hid (And.intro (Moved.step Y3.out.2.1 Y3.out.2.2 h3) ok3)
      clear h3 ok3
      cases hq3 : (M.bit s' (sizeCtx base n) (decide ((n : Int) < kk))).1 with
      | true =>
        have Q3 := hid hq3
        clear hq3
        go_wp2_with fail
        obtain ⟨z1, z2⟩ := Z3.out
        go_roundg j
        case measure => omega
        case rel => exact ⟨n + 1, _, by omega, by go_num, z1, by rw [show lim + 3 + 3 * (n + 1) = lim + 3 + 3 * n + 3 by omega]; exact z2, by rw [← X.out.2.2, runo_yes (f := sizeCtx base) Q3.out]⟩
      | false =>
        have e : M.run (onesA (sizeCtx base) kk 14 0) s2 = (n, (M.bit s' (sizeCtx base n) (decide ((n : Int) < kk))).2) := by
          rw [← X.out.2.2, runo_no (f := sizeCtx base) hq3]
        have HF := SZ.out
        rw [e] at HF
        dsimp only at HF
        rw [if_neg (by omega)] at HF
        have HG := SB.out
        rw [show M.run (sizeA base kk) s2 = (n, (M.bit s' (sizeCtx base n) (decide ((n : Int) < kk))).2) from HF] at HG
        have FIN := hid (LV.out.trans HG)
        have d2 : ((n : Int) == 14) = false := by simp; omega
        clear e HF HG hq3
        rcases hdn2 with rfl | rfl
        all_goals
          go_wp2_with fail
          go_ret
          rw [FIN.out]
          exact ⟨rfl, Z3.out.1⟩
    · have hn14 : n = 14 := by omega
      obtain rfl : gk = 0 := by omega
      have d1 : decide ((n : Int) < 14) = false := by simp; omega
      have d2 : ((n : Int) == 14) = true := by simp; omega
      have e : M.run (onesA (sizeCtx base) kk 14 0) s2 = (n, s') := by rw [← X.out.2.2]; rfl
      have HF := SZ.out
      rw [e] at HF
      dsimp only at HF
      rw [if_pos hn14] at HF
      have HF2 : M.run (sizeA base kk) s2 = _ := HF.trans (run_bind M (greatA (kk - 13)) (fun g => (.ret (13 + g) : Ask Nat)) s')
      have HG := SB.out
      rw [HF2] at HG
      have FIN := hid (LV.out.trans HG)
      obtain ⟨F3, a3, o3, f3⟩ := X.out.1
      have Y3 := hid (And.intro a3 (And.intro o3 (And.intro f3 (show Ok s' (lim + 3 + 3 * n) from X.out.2.1))))
      have hgu : kk - 14 + 1 = kk - 13 := by omega
      have HGR := hid (fun W F (h : At W F s') => great_any b T H Sp Sp2 (kk - 13) (by omega) s' W F _ h X.out.2.1 (by omega))
      clear e HF HF2 HG a3 o3 f3
      go_wp2_with fail
      refine (HGR.out _ _ Y3.out.1).mono ?_
      rintro e w4 ⟨rfl, h4⟩
      have Z4 := hid (Moved.step Y3.out.2.1 Y3.out.2.2.1 h4)
      have hgb : (M.run (greatA (kk - 13)) s').1 ≤ 100000 := by
        have := All.run M (all_great (kk - 13)) s'
        omega
      clear h4
      generalize hgr : M.run (greatA (kk - 13)) s' = gr at *
      rcases hdn2 with rfl | rfl
      all_goals
        go_wp2_with fail
        go_ret
        rw [FIN.out]
        refine ⟨?_, Z4.out⟩
        simp only [run_ret]
        go_num
set_option maxRecDepth 100000 in
set_option maxHeartbeats 4000000 in
theorem size_any (b : Nat) (H : IsCoder M 65 64 (.pointer (some ⟨b, 0, none⟩)) At Ok) (base : Nat) (hb : base ≤ 39) (v : Int) (hv : -100000 ≤ v ∧ v ≤ 100000) (s : σ) (w : World) (F : Nat → Prop) (lim : Nat) (hs : At w F s) (ho : Ok s lim) (hl : lim + 300 ≤ 1000000000) :
    Calls Tryz.prog 70 #[.pointer (some ⟨b, 0, none⟩), .int .i64 (base : Int), .int .i64 v] w (CodedN At w F (M.run (sizeA base v) s)) := by
  have S := hid (And.intro hs ho)
  have hand := and_one_gen
  have HV := hid (And.intro hv hb)
  have SZ := hid (run_bind M (onesA (sizeCtx base) v 14 0) (fun n => if n = 14 then (greatA (v - 13)).bind fun g => .ret (13 + g) else .ret n) s)
  clear hs ho
  go_enter Tryz.func70, Tryz.ntmps70
  go_wp2_with fail
  go_loopg [7] 14 (fun j i wr => BitsRel M At Ok (onesA (sizeCtx base) v) 14 lim (M.run (onesA (sizeCtx base) v 14 0) s) w F j i wr)
  case atStart => exact ⟨0, s, rfl, rfl, Moved.refl S.out.1, S.out.2, rfl⟩
  case round =>
    obtain ⟨n, s', hn, rfl, hmv, ho, hfin⟩ := hrel
    have X := hid (And.intro hmv (And.intro ho hfin))
    clear hmv ho hfin
    by_cases h3 : n < 14
    · obtain ⟨j, rfl⟩ : ∃ j, gk = j + 1 := ⟨gk - 1, by omega⟩
      have d1 : decide ((n : Int) < 14) = true := by simp; omega
      obtain ⟨F3, a3, o3, f3⟩ := X.out.1
      have Y3 := hid (And.intro a3 (And.intro o3 f3))
      clear a3 o3 f3
      go_wp2_with fail
      refine (H.bitN _ F3 s' (sizeCtx base n) _ (by unfold sizeCtx; omega) (by unfold sizeCtx; omega) _ _ Y3.out.1 X.out.2.1 (by omega)).mono ?_
      rintro e w3 ⟨rfl, h3, ok3⟩
      have Z3 := hid (And.intro (Moved.step Y3.out.2.1 Y3.out.2.2 h3) ok3)
      clear h3 ok3
      cases hq3 : (M.bit s' (sizeCtx base n) (decide ((n : Int) < v))).1 with
      | true =>
        have Q3 := hid hq3
        clear hq3
        go_wp2_with fail
        obtain ⟨z1, z2⟩ := Z3.out
        go_roundg j
        case measure => omega
        case rel => exact ⟨n + 1, _, by omega, by go_num, z1, by rw [show lim + 3 * (n + 1) = lim + 3 * n + 3 by omega]; exact z2, by rw [← X.out.2.2, runo_yes (f := sizeCtx base) Q3.out]⟩
      | false =>
        have e : M.run (onesA (sizeCtx base) v 14 0) s = (n, (M.bit s' (sizeCtx base n) (decide ((n : Int) < v))).2) := by
          rw [← X.out.2.2, runo_no (f := sizeCtx base) hq3]
        have HF := SZ.out
        rw [e] at HF
        dsimp only at HF
        rw [if_neg (by omega)] at HF
        have FIN := hid (show M.run (sizeA base v) s = (n, (M.bit s' (sizeCtx base n) (decide ((n : Int) < v))).2) from HF)
        clear e HF hq3
        go_wp2_with fail
        go_ret
        rw [FIN.out]
        exact ⟨rfl, Z3.out.1⟩
    · have hn14 : n = 14 := by omega
      obtain rfl : gk = 0 := by omega
      have d1 : decide ((n : Int) < 14) = false := by simp; omega
      have e : M.run (onesA (sizeCtx base) v 14 0) s = (n, s') := by rw [← X.out.2.2]; rfl
      have HF := SZ.out
      rw [e] at HF
      dsimp only at HF
      rw [if_pos hn14] at HF
      have HF2 : M.run (sizeA base v) s = _ := HF.trans (run_bind M (greatA (v - 13)) (fun g => (.ret (13 + g) : Ask Nat)) s')
      obtain ⟨u, hu⟩ : ∃ u, v - 13 = u := ⟨_, rfl⟩
      rw [hu] at HF2
      obtain ⟨s3, hs3⟩ : ∃ q, q = s' := ⟨_, rfl⟩
      subst hs3
      have HG := hid (show M.run (greatA u) s3 = _ from run_bind M (zerosA u 13 0) (fun z => lowsA u z 1) s3)
      have FIN0 := hid (show M.run (sizeA base v) s = (13 + (M.run (greatA u) s3).1, (M.run (greatA u) s3).2) from HF2)
      have X3 := hid (And.intro X.out.1 (show Ok s3 (lim + 42) from (by have h := X.out.2.1; rw [hn14] at h; exact h)))
      have hub : -1000000 ≤ u ∧ u ≤ 1000000 := by omega
      clear e HF HF2 hn14 h3 hn X
      go_wp2_with fail
      go_loopg [9] 13 (fun j i wr => BitsRel M At Ok (zerosA u) 13 (lim + 42) (M.run (zerosA u 13 0) s3) w F j i wr)
      case atStart => exact ⟨0, s3, rfl, rfl, X3.out.1, X3.out.2, rfl⟩
      case round =>
        obtain ⟨z, s', hz, rfl, hmv, ho, hfin⟩ := hrel
        have X := hid (And.intro hmv (And.intro ho hfin))
        clear hmv ho hfin
        by_cases h3 : z < 13
        · obtain ⟨j, rfl⟩ : ∃ j, gk = j + 1 := ⟨gk - 1, by omega⟩
          have hsh := wrap_pow1 z (by omega)
          have hsh2 : IntKind.i64.wrap (2 ^ (z + 1)) = ((2 ^ (z + 1) : Nat) : Int) := by rw [← hsh, Int.one_mul]
          have d1 : decide ((z : Int) < 13) = true := by simp; omega
          obtain ⟨F1, a1, o1, f1⟩ := X.out.1
          have Y := hid (And.intro a1 (And.intro o1 f1))
          clear a1 o1 f1
          go_wp2_with fail
          refine (H.flatN _ F1 s' _ _ (by exact Y.out.1) X.out.2.1 (by omega)).mono ?_
          rintro e w2 ⟨rfl, h2, ok2⟩
          have Z := hid (And.intro (Moved.step Y.out.2.1 Y.out.2.2 h2) ok2)
          clear h2 ok2 hsh hsh2
          cases hq : (M.flat s' (decide ((2 : Int) ^ (z + 1) ≤ u))).1 with
          | true =>
            have Q := hid hq
            clear hq
            go_wp2_with fail
            obtain ⟨z1, z2⟩ := Z.out
            go_roundg j
            case measure => omega
            case rel => exact ⟨z + 1, _, by omega, by go_num, z1, by rw [show lim + 42 + 3 * (z + 1) = lim + 42 + 3 * z + 3 by omega]; exact z2, by rw [← X.out.2.2, runz_yes Q.out]⟩
          | false =>
            have e : M.run (zerosA u 13 0) s3 = (z, (M.flat s' (decide ((2 : Int) ^ (z + 1) ≤ u))).2) := by rw [← X.out.2.2, runz_no hq]
            have EZ := hid e
            have MV := hid (And.intro Z.out.1 (And.intro (⟨lim + 42 + 3 * z + 3, by omega, Z.out.2⟩ : ∃ m, m ≤ lim + 84 ∧ Ok (M.flat s' (decide ((2 : Int) ^ (z + 1) ≤ u))).2 m) (show z ≤ 13 by omega)))
            clear hq e
            generalize (M.flat s' (decide ((2 : Int) ^ (z + 1) ≤ u))).2 = s1 at *
            have HF := HG.out
            rw [EZ.out] at HF
            have FIN := hid (show M.run (sizeA base v) s = (13 + (M.run (lowsA u z 1) s1).1, (M.run (lowsA u z 1) s1).2) from (by rw [FIN0.out, HF]))
            obtain ⟨m, hm42, hok⟩ := MV.out.2.1
            have OK1 := hid hok
            clear HF hok
            go_wp2_with fail
            go_loopg [10, 11] z (fun j nv kv wr => ∃ (n : Nat) (kk : Int) (s' : σ), nv = .int .i64 n ∧ kv = .int .i64 kk ∧ kk = (j : Int) - 1 ∧ j ≤ z ∧ n + 1 ≤ 2 ^ (z - j + 1) ∧ Moved At w F s' wr ∧ Ok s' (m + 3 * (z - j)) ∧ M.run (lowsA u j n) s' = M.run (lowsA u z 1) s1)
            case atStart => exact ⟨1, (z : Int) - 1, s1, rfl, by first | rfl | go_num, rfl, Nat.le_refl _, by rw [Nat.sub_self]; omega, by first | exact MV.out.1 | exact MV.out.1.belowW H ⟨rfl, rfl, rfl, Nat.le_refl _, fun _ _ => rfl⟩, by rw [Nat.sub_self]; exact OK1.out, rfl⟩
            case round =>
              obtain ⟨n, kk, s2, rfl, rfl, hkk, hjz, hn, hmv, hok2, hfin⟩ := hrel
              have X2 := hid (And.intro hmv (And.intro hok2 hfin))
              have hz13 := MV.out.2.2
              have hnb : 2 ^ (z - gk + 1) ≤ 2 ^ 14 := Nat.pow_le_pow_right (by omega) (by omega)
              have hn2 : n ≤ 16384 := by omega
              clear hmv hok2 hfin
              by_cases h0 : 0 < gk
              · obtain ⟨j, rfl⟩ : ∃ j, gk = j + 1 := ⟨gk - 1, by omega⟩
                obtain rfl : kk = (j : Int) := by omega
                have HN := hid (And.intro hn (And.intro hjz hn2))
                have hn0 : (0 : Int) ≤ (n : Int) ∧ (n : Int) ≤ 16384 := by omega
                have hj13 : (0 : Int) ≤ (j : Int) ∧ (j : Int) ≤ 13 := by omega
                have LB := hid (lowB u j)
                clear hkk hn hjz hn2 hnb h0 hz13
                obtain ⟨F2, a2, o2, f2⟩ := X2.out.1
                have Y2 := hid (And.intro a2 (And.intro o2 f2))
                clear a2 o2 f2
                go_wp2_with fail
                refine (H.flatN _ F2 s2 _ _ (by exact Y2.out.1) X2.out.2.1 (by omega)).mono ?_
                rintro e w3 ⟨rfl, h2, ok2⟩
                have Z2 := hid (And.intro (Moved.step Y2.out.2.1 Y2.out.2.2 h2) ok2)
                clear h2 ok2
                rw [LB.out] at *
                cases hq2 : (M.flat s2 (lowBit u j)).1
                · have Q2 := hid hq2
                  clear hq2
                  go_wp2_with fail
                  obtain ⟨z1, z2⟩ := Z2.out
                  obtain ⟨n1, n2, n3⟩ := HN.out
                  go_roundg j
                  case measure => omega
                  case rel =>
                    refine ⟨2 * n, (j : Int) - 1, (M.flat s2 (lowBit u j)).2, by go_num, by first | rfl | go_num, rfl, by omega, ?_, z1, ?_, ?_⟩
                    · rw [show z - j + 1 = (z - (j + 1) + 1) + 1 by omega, Nat.pow_succ]
                      omega
                    · rw [show m + 3 * (z - j) = m + 3 * (z - (j + 1)) + 3 by omega]
                      exact z2
                    · rw [← X2.out.2.2, runl, Q2.out]
                      rfl
                · have Q2 := hid hq2
                  clear hq2
                  go_wp2_with fail
                  obtain ⟨z1, z2⟩ := Z2.out
                  obtain ⟨n1, n2, n3⟩ := HN.out
                  go_roundg j
                  case measure => omega
                  case rel =>
                    refine ⟨2 * n + 1, (j : Int) - 1, (M.flat s2 (lowBit u j)).2, by go_num, by first | rfl | go_num, rfl, by omega, ?_, z1, ?_, ?_⟩
                    · rw [show z - j + 1 = (z - (j + 1) + 1) + 1 by omega, Nat.pow_succ]
                      omega
                    · rw [show m + 3 * (z - j) = m + 3 * (z - (j + 1)) + 3 by omega]
                      exact z2
                    · rw [← X2.out.2.2, runl, Q2.out]
                      rfl
              · obtain rfl : gk = 0 := by omega
                obtain rfl : kk = -1 := by omega
                clear hkk hn hjz hnb h0 hz13
                go_wp2_with fail
                go_ret
                have e : M.run (lowsA u z 1) s1 = (n, s2) := X2.out.2.2.symm
                rw [FIN.out, e]
                exact ⟨by first | rfl | (simp only []; go_num), X2.out.1⟩
        · have hz13 : z = 13 := by omega
          obtain rfl : gk = 0 := by omega
          have d1 : decide ((z : Int) < 13) = false := by simp; omega
          have e : M.run (zerosA u 13 0) s3 = (z, s') := by rw [← X.out.2.2]; rfl
          have EZ := hid e
          have MV := hid (And.intro X.out.1 (And.intro (⟨lim + 42 + 3 * z, by omega, X.out.2.1⟩ : ∃ m, m ≤ lim + 84 ∧ Ok s' m) (show z ≤ 13 by omega)))
          have hzb : (0 : Int) ≤ (z : Int) ∧ (z : Int) ≤ 13 := by omega
          clear e h3 hz hz13
          obtain ⟨s1, hs1⟩ : ∃ q, q = s' := ⟨_, rfl⟩
          subst hs1
          have HF := HG.out
          rw [EZ.out] at HF
          have FIN := hid (show M.run (sizeA base v) s = (13 + (M.run (lowsA u z 1) s1).1, (M.run (lowsA u z 1) s1).2) from (by rw [FIN0.out, HF]))
          obtain ⟨m, hm42, hok⟩ := MV.out.2.1
          have OK1 := hid hok
          clear HF hok
          go_wp2_with fail
          go_loopg [10, 11] z (fun j nv kv wr => ∃ (n : Nat) (kk : Int) (s' : σ), nv = .int .i64 n ∧ kv = .int .i64 kk ∧ kk = (j : Int) - 1 ∧ j ≤ z ∧ n + 1 ≤ 2 ^ (z - j + 1) ∧ Moved At w F s' wr ∧ Ok s' (m + 3 * (z - j)) ∧ M.run (lowsA u j n) s' = M.run (lowsA u z 1) s1)
          case atStart => exact ⟨1, (z : Int) - 1, s1, rfl, by first | rfl | go_num, rfl, Nat.le_refl _, by rw [Nat.sub_self]; omega, by first | exact MV.out.1 | exact MV.out.1.belowW H ⟨rfl, rfl, rfl, Nat.le_refl _, fun _ _ => rfl⟩, by rw [Nat.sub_self]; exact OK1.out, rfl⟩
          case round =>
            obtain ⟨n, kk, s2, rfl, rfl, hkk, hjz, hn, hmv, hok2, hfin⟩ := hrel
            have X2 := hid (And.intro hmv (And.intro hok2 hfin))
            have hz13 := MV.out.2.2
            have hnb : 2 ^ (z - gk + 1) ≤ 2 ^ 14 := Nat.pow_le_pow_right (by omega) (by omega)
            have hn2 : n ≤ 16384 := by omega
            clear hmv hok2 hfin
            by_cases h0 : 0 < gk
            · obtain ⟨j, rfl⟩ : ∃ j, gk = j + 1 := ⟨gk - 1, by omega⟩
              obtain rfl : kk = (j : Int) := by omega
              have HN := hid (And.intro hn (And.intro hjz hn2))
              have hn0 : (0 : Int) ≤ (n : Int) ∧ (n : Int) ≤ 16384 := by omega
              have hj13 : (0 : Int) ≤ (j : Int) ∧ (j : Int) ≤ 13 := by omega
              have LB := hid (lowB u j)
              clear hkk hn hjz hn2 hnb h0 hz13
              obtain ⟨F2, a2, o2, f2⟩ := X2.out.1
              have Y2 := hid (And.intro a2 (And.intro o2 f2))
              clear a2 o2 f2
              go_wp2_with fail
              refine (H.flatN _ F2 s2 _ _ (by exact Y2.out.1) X2.out.2.1 (by omega)).mono ?_
              rintro e w3 ⟨rfl, h2, ok2⟩
              have Z2 := hid (And.intro (Moved.step Y2.out.2.1 Y2.out.2.2 h2) ok2)
              clear h2 ok2
              rw [LB.out] at *
              cases hq2 : (M.flat s2 (lowBit u j)).1
              · have Q2 := hid hq2
                clear hq2
                go_wp2_with fail
                obtain ⟨z1, z2⟩ := Z2.out
                obtain ⟨n1, n2, n3⟩ := HN.out
                go_roundg j
                case measure => omega
                case rel =>
                  refine ⟨2 * n, (j : Int) - 1, (M.flat s2 (lowBit u j)).2, by go_num, by first | rfl | go_num, rfl, by omega, ?_, z1, ?_, ?_⟩
                  · rw [show z - j + 1 = (z - (j + 1) + 1) + 1 by omega, Nat.pow_succ]
                    omega
                  · rw [show m + 3 * (z - j) = m + 3 * (z - (j + 1)) + 3 by omega]
                    exact z2
                  · rw [← X2.out.2.2, runl, Q2.out]
                    rfl
              · have Q2 := hid hq2
                clear hq2
                go_wp2_with fail
                obtain ⟨z1, z2⟩ := Z2.out
                obtain ⟨n1, n2, n3⟩ := HN.out
                go_roundg j
                case measure => omega
                case rel =>
                  refine ⟨2 * n + 1, (j : Int) - 1, (M.flat s2 (lowBit u j)).2, by go_num, by first | rfl | go_num, rfl, by omega, ?_, z1, ?_, ?_⟩
                  · rw [show z - j + 1 = (z - (j + 1) + 1) + 1 by omega, Nat.pow_succ]
                    omega
                  · rw [show m + 3 * (z - j) = m + 3 * (z - (j + 1)) + 3 by omega]
                    exact z2
                  · rw [← X2.out.2.2, runl, Q2.out]
                    rfl
            · obtain rfl : gk = 0 := by omega
              obtain rfl : kk = -1 := by omega
              clear hkk hn hjz hnb h0 hz13
              go_wp2_with fail
              go_ret
              have e : M.run (lowsA u z 1) s1 = (n, s2) := X2.out.2.2.symm
              rw [FIN.out, e]
              exact ⟨by first | rfl | (simp only []; go_num), X2.out.1⟩
end
end Go.Proofs.YtkkgpdejmcpcpaaGreatDoor

