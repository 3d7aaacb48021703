/- RacSize: the walk. -/
import Derived.Test.YtgdhbmpdicdbpaaDoorLawSize
import Derived.Test.YtgdhbmpdicdbpaaDoorLawDec
namespace Go.Proofs.YtgdhbmpdicdbpaaDoor
open Go.RowKit

def BoolsAt (w : World) (x : Value) (l : List Bool) : Prop :=
  ∃ A c, x = .slice A l.length c ∧ (l ≠ [] → ∃ b off, A = some ⟨b, off, none⟩ ∧ b < w.heap.size ∧ ∀ (i : Nat) (u : Bool), l[i]? = some u → w.cell? ⟨b, off + i, none⟩ = some (.bool u))

set_option maxRecDepth 100000 in
set_option maxHeartbeats 4000000 in
theorem size_walk (y : Value) (l : List Bool) (p : Int) (w : World) (hy : BoolsAt w y l) (_ : l.length ≤ maxLen) (_ : (Lit.int .i64 p).wf = true) (hg : ErrT w) :
    Calls Tryd.prog 4 #[y, .int .i64 p] w fun e w' => e = .returned (.bool true) ∧ Below w.heap.size w w' := by
  obtain ⟨A2, c2, rfl, hy2⟩ := hy
  have Y := hid hy2
  have HG := hid (And.intro hg hg.lt)
  clear hy2 hg
  by_cases hbig : 4000 < l.length
  · have hb' : decide ((4000 : Int) < (l.length : Int)) = true := by simp; omega
    clear hbig
    go_enter Tryd.func4, Tryd.ntmps4
    go_wp2_with fail
    refine (first_any _ HG.out.1).mono ?_
    rintro e w1 ⟨rfl, h1⟩
    have B1 := hid h1
    clear h1
    go_wp2_with fail
    refine (new_enc_o _).mono ?_
    rintro e w2 ⟨eb, F, rfl, a1, f1, b1⟩
    have B2 := hid (B1.out.trans (b1.mono B1.out.size))
    clear a1 f1 b1
    go_wp2_with fail
    refine (first_any _ (HG.out.1.below B2.out HG.out.2)).mono ?_
    rintro e w3 ⟨rfl, h1⟩
    have B3 := hid h1
    clear h1
    go_wp2_with fail
    go_ret
    exact ⟨rfl, B2.out.trans (B3.out.mono B2.out.size)⟩
  · have hb' : decide ((4000 : Int) < (l.length : Int)) = false := by simp; omega
    have hll : l.length ≤ 4000 := by omega
    clear hbig
    go_enter Tryd.func4, Tryd.ntmps4
    go_wp2_with fail
    refine (first_any _ HG.out.1).mono ?_
    rintro e w1 ⟨rfl, h1⟩
    have B1 := hid h1
    clear h1
    go_wp2_with fail
    refine (new_enc_o _).mono ?_
    rintro e w2 ⟨eb, F, rfl, a1, f1, b1⟩
    have A1 := hid (And.intro a1 (And.intro (B1.out.trans (b1.mono B1.out.size)) (fun k hk => by have := f1 k hk; have := B1.out.size; omega : ∀ k, F k → w.heap.size ≤ k)))
    clear a1 f1 b1
    go_wp2_with fail
    go_loopg [6] l.length (fun k i wr => ∃ (j : Nat) (e : Enc) (F : Nat → Prop), j + k = l.length ∧ i = .int .i64 j ∧ EncO eb wr F e ∧ Below w.heap.size w wr ∧ (∀ k, F k → w.heap.size ≤ k) ∧ SizeAt e j ∧ e.Ok (3 * j))
    case atStart => exact ⟨0, _, F, by omega, rfl, A1.out.1, A1.out.2.1, A1.out.2.2, SizeAt.new, enc_new_ok⟩
    case round =>
      clear A1 B1
      obtain ⟨j, e, F, hj, rfl, hE, hbel, hF, hsz, hok⟩ := hrel
      by_cases hlt : j < l.length
      · have j1 : decide ((j : Int) < (l.length : Int)) = true := by simp; omega
        obtain ⟨u, hu⟩ : ∃ u, l[j]? = some u := ⟨l[j]'hlt, List.getElem?_eq_getElem hlt⟩
        obtain ⟨lb, off, rfl, hlb, hcs⟩ := Y.out (by intro e; rw [e] at hu; simp at hu)
        have c0 := (hbel.cell (p := ⟨lb, off + j, none⟩) hlb).trans (hcs j u hu)
        have k0 : (0 : Int) ≤ (j : Int) := by omega
        have k1 : (j : Int) < (l.length : Int) := by omega
        have jl : j ≤ 4000 := by omega
        have hs2 := hsz.flat u
        have hn := hs2.len
        have ho2 : (e.narrow (e.r / 2) u).Ok (3 * j + 3) := by
          have := Enc.op_ok hok 0 u
          unfold Enc.op at this
          rwa [if_pos rfl] at this
        have q1 : (((j : Int) + 1).tdiv 8) = (((j + 1) / 8 : Nat) : Int) := by rw [Int.tdiv_eq_ediv_of_nonneg (by omega)]; omega
        have q2 : IntKind.i64.wrap ((((j + 1) / 8 : Nat) : Int)) = (((j + 1) / 8 : Nat) : Int) := IntWalk.i64_in _ (by omega)
        have q3 : IntKind.i64.wrap ((((j + 1) / 8 : Nat) : Int) + 5) = (((j + 1) / 8 : Nat) : Int) + 5 := IntWalk.i64_in _ (by omega)
        have q4 : decide (((j : Int) + 1) / 8 + 5 < ((e.narrow (e.r / 2) u).out.length : Int) + 4) = false := decide_eq_false (by omega)
        have q5 : decide (((e.narrow (e.r / 2) u).out.length : Int) + 4 < 4) = false := decide_eq_false (by omega)
        have NX := hid (And.intro hE (And.intro hbel (And.intro hF (And.intro (hok.up (show 3 * j ≤ 1000000000 by omega)) (And.intro hs2 (And.intro ho2 (And.intro (ho2.up (show 3 * j + 3 ≤ 1000000000 by omega)) (And.intro hj hlt))))))))
        clear hcs hu hE hbel hF hsz hok hs2 hn ho2 hj hlt
        generalize he' : e.narrow (e.r / 2) u = e' at *
        have HE := hid he'
        clear he'
        go_wp2_with fail
        refine (enc_flat_o eb u e F _ (by exact NX.out.1) NX.out.2.2.2.1).mono ?_
        rintro y w5 ⟨rfl, hm⟩
        rw [HE.out] at hm
        obtain ⟨F', a', o', f'⟩ := hm
        have hbel' : Below w.heap.size w w5 := NX.out.2.1.trans (below_only12 o' NX.out.2.1.size (fun k hk hf => by have := NX.out.2.2.1 k hf; omega))
        have hF' : ∀ k, F' k → w.heap.size ≤ k := fun k hk => by
          have := NX.out.2.1.size
          rcases f' k hk with h | h
          · exact NX.out.2.2.1 k h
          · omega
        have MX := hid (And.intro a' (And.intro hbel' hF'))
        clear a' o' f' hbel' hF' c0
        go_wp2_with fail
        refine (enc_len eb e' F' _ (by exact MX.out.1) NX.out.2.2.2.2.2.2.1).mono ?_
        rintro y w6 ⟨rfl, m6, rfl⟩
        go_wp2_with fail
        refine (enc_len eb e' F' _ (by exact (enc_obj eb).keep _ _ _ (fun _ => False) _ MX.out.1 (only_drewO _ m6) (fun _ _ h => h)) NX.out.2.2.2.2.2.2.1).mono ?_
        rintro y w7 ⟨rfl, m7, rfl⟩
        go_wp2_with fail
        have nx := NX.out.2.2.2.2.2.2.2
        go_roundg (gk - 1)
        case measure => omega
        case rel => exact ⟨j + 1, e', F', by omega, by go_num, (enc_obj eb).keep _ _ _ (fun _ => False) _ MX.out.1 (only_drewO _ _) (fun _ _ h => h), MX.out.2.1.trans (below_only12 (only_drewO _ _) MX.out.2.1.size (fun _ _ h => h)), MX.out.2.2, NX.out.2.2.2.2.1, NX.out.2.2.2.2.2.1⟩
      · have hj1 : decide ((j : Int) < (l.length : Int)) = false := by simp; omega
        have ho := hok.up (show 3 * j ≤ 1000000000 by omega)
        have S := hid (And.intro hE (And.intro hbel (And.intro hF (And.intro ho hok))))
        have hj2 : l.length ≤ j := by omega
        have JH := hid (show j ≤ 4000 by omega)
        clear hE hbel hF hsz hok ho hlt hj
        go_wp2_with fail
        refine (enc_end_o eb e F _ (by exact S.out.1) S.out.2.2.2.1).mono ?_
        rintro y w5 ⟨g1, p1, rfl, o1, b1⟩
        have E1 := hid ((enc_obj eb).keep _ _ _ (fun _ => False) _ S.out.1 (⟨b1.os, b1.tape, b1.output, b1.size, fun k hk _ => b1.block k hk⟩ : Only (fun _ => False) wr w5) (fun _ _ h => h))
        have B5 := hid (S.out.2.1.trans (b1.mono S.out.2.1.size))
        have O1 := hid (From.of_own o1)
        clear o1 b1
        go_wp2_with fail
        refine (enc_len eb e F _ (by exact E1.out) S.out.2.2.2.1).mono ?_
        rintro y w6 ⟨rfl, m6, rfl⟩
        have E2 := hid ((enc_obj eb).keep _ _ _ (fun _ => False) _ E1.out (only_drewO _ m6) (fun _ _ h => h))
        have B6 := hid (B5.out.trans (below_only12 (only_drewO w5 m6) B5.out.size (fun _ _ h => h)))
        have O2 := hid (From.below12 O1.out (below_only12 (only_drewO w5 m6) (Nat.le_refl _) (fun _ _ h => h)))
        clear E1 B5 O1
        generalize w5.drewN m6 = w7 at *
        by_cases hp : 1 ≤ p ∧ p ≤ 2047
        · have p1' : decide (p < 1) = false := by simp; omega
          have p2' : decide (2047 < p) = false := by simp; omega
          obtain ⟨m, rfl⟩ := Int.eq_ofNat_of_zero_le (show 0 ≤ p by omega)
          have hm1 := hid (show 1 ≤ m ∧ m ≤ 2047 by omega)
          have hgr := narrow_grows e (e.r / 2048 * m) false
          have ho2 : (e.narrow (e.r / 2048 * m) false).Ok 1000000000 := by
            have := Enc.op_ok S.out.2.2.2.2 m false
            unfold Enc.op at this
            rw [if_neg (by have := hm1.out.1; omega), if_pos hp] at this
            exact this.up (by have := JH.out; omega)
          have hby := bytes_le (e.narrow (e.r / 2048 * m) false)
          have HE := hid (And.intro ho2 hby)
          have q1 : decide ((e.out.length : Int) + 4 ≤ ((e.narrow (e.r / 2048 * m) false).out.length : Int) + 4) = true := decide_eq_true (by omega)
          have q2 : decide (((e.narrow (e.r / 2048 * m) false).bytes.length : Int) ≤ ((e.narrow (e.r / 2048 * m) false).out.length : Int) + 4) = true := decide_eq_true (by omega)
          have q6 : e.out.length ≤ (e.narrow (e.r / 2048 * m) false).out.length := hgr
          clear hp hgr ho2 hby
          go_wp2_with fail
          refine (enc_code_o eb m false e F _ (by exact E2.out) S.out.2.2.2.1 hm1.out.1 hm1.out.2).mono ?_
          rintro y w8 ⟨rfl, hm⟩
          obtain ⟨F', a', o', f'⟩ := hm
          have B8 := hid (B6.out.trans (below_only12 o' B6.out.size (fun k hk hf => by have := S.out.2.2.1 k hf; omega)))
          have E3 := hid a'
          clear a' o' f'
          generalize e.narrow (e.r / 2048 * m) false = e' at *
          go_wp2_with fail
          refine (first_any _ (HG.out.1.below B8.out HG.out.2)).mono ?_
          rintro y w9 ⟨rfl, h9⟩
          have E4 := hid ((enc_obj eb).keep _ _ _ (fun _ => False) _ E3.out (⟨h9.os, h9.tape, h9.output, h9.size, fun k hk _ => h9.block k hk⟩ : Only (fun _ => False) w8 w9) (fun _ _ h => h))
          have B9 := hid (B8.out.trans (h9.mono B8.out.size))
          clear h9
          go_wp2_with fail
          refine (enc_len eb e' F' _ (by exact E4.out) HE.out.1).mono ?_
          rintro y w10 ⟨rfl, m10, rfl⟩
          have E5 := hid ((enc_obj eb).keep _ _ _ (fun _ => False) _ E4.out (only_drewO _ m10) (fun _ _ h => h))
          have B10 := hid (B9.out.trans (below_only12 (only_drewO w9 m10) B9.out.size (fun _ _ h => h)))
          go_wp2_with fail
          refine (enc_end_o eb e' F' _ (by exact E5.out) HE.out.1).mono ?_
          rintro y w11 ⟨g2, p2, rfl, o2, b2⟩
          have E6 := hid ((enc_obj eb).keep _ _ _ (fun _ => False) _ E5.out (⟨b2.os, b2.tape, b2.output, b2.size, fun k hk _ => b2.block k hk⟩ : Only (fun _ => False) _ w11) (fun _ _ h => h))
          have B11 := hid (B10.out.trans (b2.mono B10.out.size))
          clear o2 b2
          go_wp2_with fail
          refine (enc_len eb e' F' _ (by exact E6.out) HE.out.1).mono ?_
          rintro y w12 ⟨rfl, m12, rfl⟩
          go_wp2_with fail
          go_ret
          exact ⟨rfl, B11.out.trans (below_only12 (only_drewO _ _) B11.out.size (fun _ _ h => h))⟩
        · have hx := hid (show p < 1 ∨ 2047 < p by omega)
          have hex : decide (p < 1) = true ∨ (decide (p < 1) = false ∧ decide (2047 < p) = true) := by
            by_cases h : p < 1
            · exact .inl (decide_eq_true h)
            · exact .inr ⟨decide_eq_false h, decide_eq_true (by omega)⟩
          clear hp
          rcases hex with p1' | ⟨p1', p2'⟩
          all_goals
            go_wp2_with fail
            refine (enc_code_no eb p true _ hx.out).mono ?_
            rintro y w8 ⟨rfl, rfl⟩
            go_wp2_with fail
            refine (first_any _ (HG.out.1.below B6.out HG.out.2)).mono ?_
            rintro y w9 ⟨rfl, h9⟩
            have E4 := hid ((enc_obj eb).keep _ _ _ (fun _ => False) _ E2.out (⟨h9.os, h9.tape, h9.output, h9.size, fun k hk _ => h9.block k hk⟩ : Only (fun _ => False) _ w9) (fun _ _ h => h))
            have B9 := hid (B6.out.trans (h9.mono B6.out.size))
            have O4 := hid (From.below12 O2.out h9)
            clear h9
            go_wp2_with fail
            refine (fail_any _ _).mono ?_
            rintro y w10 ⟨rfl, h9⟩
            have E5 := hid ((enc_obj eb).keep _ _ _ (fun _ => False) _ E4.out (⟨h9.os, h9.tape, h9.output, h9.size, fun k hk _ => h9.block k hk⟩ : Only (fun _ => False) _ w10) (fun _ _ h => h))
            have B10 := hid (B9.out.trans (h9.mono B9.out.size))
            have O5 := hid (From.below12 O4.out h9)
            clear h9
            go_wp2_with fail
            refine (err_same3 _ (HG.out.1.below B10.out HG.out.2)).mono ?_
            rintro y w11 ⟨rfl, h9⟩
            have E6 := hid ((enc_obj eb).keep _ _ _ (fun _ => False) _ E5.out (⟨h9.os, h9.tape, h9.output, h9.size, fun k hk _ => h9.block k hk⟩ : Only (fun _ => False) _ w11) (fun _ _ h => h))
            have B11 := hid (B10.out.trans (h9.mono B10.out.size))
            have O6 := hid (From.below12 O5.out h9)
            clear h9
            go_wp2_with fail
            refine (enc_end_o eb e F _ (by exact E6.out) S.out.2.2.2.1).mono ?_
            rintro y w12 ⟨g2, p2, rfl, o2, h9⟩
            have E7 := hid ((enc_obj eb).keep _ _ _ (fun _ => False) _ E6.out (⟨h9.os, h9.tape, h9.output, h9.size, fun k hk _ => h9.block k hk⟩ : Only (fun _ => False) _ w12) (fun _ _ h => h))
            have B12 := hid (B11.out.trans (h9.mono B11.out.size))
            have O7 := hid (From.below12 O6.out h9)
            have O8 := hid (From.of_own o2)
            clear h9 o2
            go_wp2_with fail
            refine (bytes_same (by exact O8.out) (by exact O7.out)).mono ?_
            rintro y w13 ⟨rfl, rfl⟩
            go_wp2_with fail
            refine (enc_len eb e F _ (by exact E7.out) S.out.2.2.2.1).mono ?_
            rintro y w14 ⟨rfl, m14, rfl⟩
            go_wp2_with fail
            go_ret
            exact ⟨rfl, B12.out.trans (below_only12 (only_drewO _ _) B12.out.size (fun _ _ h => h))⟩
end Go.Proofs.YtgdhbmpdicdbpaaDoor
