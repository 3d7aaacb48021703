/- RacZeros: the walk. -/
import Derived.Test.YtgdhbmpdicdbpaaDoorCodes12
namespace Go.Proofs.YtgdhbmpdicdbpaaDoor
open Go.RowKit

structure Op12 where
  p : Int
  b : Bool
def OpsAt12 (w : World) (x : Value) (l : List Op12) : Prop :=
  ∃ A c, x = .slice A l.length c ∧ (l ≠ [] → ∃ b off, A = some ⟨b, off, none⟩ ∧ b < w.heap.size ∧ ∀ (i : Nat) (o : Op12), l[i]? = some o →
    w.cell? ⟨b, off + i * 2, none⟩ = some (.int .i64 o.p) ∧ w.cell? ⟨b, off + i * 2 + 1, none⟩ = some (.bool o.b))
theorem ops12_cells {w W : World} {lb off j B : Nat} {o : Op12} (hb : Below B w W) (hl : lb < B)
    (h : w.cell? ⟨lb, off + j * 2, none⟩ = some (.int .i64 o.p) ∧ w.cell? ⟨lb, off + j * 2 + 1, none⟩ = some (.bool o.b)) :
    W.cell? ⟨lb, off + j * 2, none⟩ = some (.int .i64 o.p) ∧ W.cell? ⟨lb, off + j * 2 + 1, none⟩ = some (.bool o.b) :=
  ⟨(hb.cell (p := ⟨lb, _, none⟩) hl).trans h.1, (hb.cell (p := ⟨lb, _, none⟩) hl).trans h.2⟩
theorem dec_code_no_o (b : Nat) (p : Int) (d : Dec) (F : Nat → Prop) (w : World) (hd : DecO b w F d) (h : p < 1 ∨ 2047 < p) :
    Calls Tryd.prog 28 #[.pointer (some ⟨b, 0, none⟩), .int .i64 p] w fun e w' => e = .returned (.tuple #[.bool false, .iface 35 (.int .i64 3)]) ∧ w = w' := by
  obtain ⟨g, c, hd, rfl⟩ := hd
  exact dec_code_no b g c p d w hd h

set_option maxRecDepth 100000 in
set_option maxHeartbeats 4000000 in
theorem zeros_walk (y : Value) (l : List Op12) (w : World) (hy : OpsAt12 w y l) (hg : ErrT w) :
    Calls Tryd.prog 8 #[y] w fun e w' => e = .returned (.bool true) ∧ Below w.heap.size w w' := by
  obtain ⟨A2, c2, rfl, hy2⟩ := hy
  have Y := hid hy2
  have HG := hid (And.intro hg hg.lt)
  clear hy2 hg
  go_enter Tryd.func8, Tryd.ntmps8
  go_wp2_with fail
  refine (first_any _ HG.out.1).mono ?_
  rintro e w1 ⟨rfl, h1⟩
  have B1 := hid h1
  clear h1
  go_wp2_with fail
  refine (new_enc_o _).mono ?_
  rintro e w2 ⟨eb, F, rfl, a1, f1, b1⟩
  have A1 := hid (And.intro a1 (And.intro f1 b1))
  clear a1 f1 b1
  go_wp2_with fail
  refine (new_dec_o _ [] _ ⟨none, 0, rfl, rfl, fun h => absurd rfl h⟩ (by simp)).mono ?_
  rintro e w3 ⟨db, G, rfl, a2, f2, b2⟩
  have T := hid (PairAt.mk2 (B := w.heap.size) (w0 := w) (enc_obj eb) A1.out.1 (fun k hk => by have := A1.out.2.1 k hk; have := B1.out.size; omega) (B1.out.trans (A1.out.2.2.mono B1.out.size)) (by have := A1.out.2.2.size; have := B1.out.size; omega) a2 f2 b2)
  clear a2 f2 b2
  go_wp2_with fail
  go_loopg [5] l.length (fun k i wr => ∃ (j : Nat) (e : Enc) (d : Dec), j + k = l.length ∧ j ≤ 4000 ∧ i = .int .i64 j ∧ Pair w.heap.size w (EncO eb) (DecO db) e d wr ∧ Zero e d ∧ e.Ok (3 * j) ∧ d.Ok (4 + 3 * j))
  case atStart => exact ⟨0, _, _, by omega, by omega, rfl, ⟨F, G, T.out⟩, Zero.new, enc_new_ok, dec_new_ok []⟩
  case round =>
    clear T A1 B1
    obtain ⟨j, e, d, hj, hj2, rfl, ⟨F, G, hT⟩, hz, ho1, ho2⟩ := hrel
    have T := hid (And.intro hT (And.intro hz (And.intro hj (And.intro ho1 ho2))))
    clear hT hz hj ho1 ho2
    by_cases hlt : j < l.length ∧ j < 4000
    · have j1 : decide ((j : Int) < (l.length : Int)) = true := by simp; omega
      have j2 : decide ((j : Int) < 4000) = true := by simp; omega
      have JJ := hid hlt
      clear hlt
      obtain ⟨o, hoj⟩ : ∃ o, l[j]? = some o := ⟨l[j]'JJ.out.1, List.getElem?_eq_getElem JJ.out.1⟩
      obtain ⟨lb, off, rfl, hlb, hcs⟩ := Y.out (by intro e; rw [e] at hoj; simp at hoj)
      obtain ⟨c0, c1⟩ := ops12_cells T.out.1.bel hlb (hcs j o hoj)
      have C0 := hid (And.intro (hcs j o hoj) hlb)
      clear hcs hoj
      have k0 : (0 : Int) ≤ (j : Int) := by omega
      have k1 : (j : Int) < (l.length : Int) := by have := JJ.out.1; omega
      obtain ⟨op, ob⟩ := o
      simp only at c0 c1
      have hst := T.out.2.1.op T.out.2.2.2.1 op
      have hk1 := Enc.op_ok T.out.2.2.2.1 op false
      have hk2 := Dec.op_ok T.out.2.2.2.2 op
      have jl := hj2
      have hov : (d.op op).2.at_ - (d.op op).2.bs.length = (e.op op false).out.length + 4 := by rw [hst.2.at_, hst.2.bs]; rfl
      have ho1 := T.out.2.2.2.1.up (show 3 * j ≤ 1000000000 by omega)
      have ho2 := T.out.2.2.2.2.up (show 4 + 3 * j ≤ 1000000000 by omega)
      have ho3 := hk1.up (show 3 * j + 3 ≤ 1000000000 by omega)
      have hat : (d.op op).2.at_ ≤ 1000000000 := by have := hk2.at_; omega
      have NX := hid (And.intro hst (And.intro hk1 (And.intro hk2 (And.intro hov (And.intro ho3 hat)))))
      have OK := hid (And.intro ho1 ho2)
      clear hst hk1 hk2 hov ho1 ho2 ho3 hat
      go_wp2_with fail
      refine (codes_any eb op false e F _ (by exact T.out.1.l) OK.out.1).mono ?_
      rintro y w5 ⟨rfl, hm⟩
      obtain ⟨F2, G2, hT2⟩ := T.out.1.left (dec_obj db) hm
      obtain ⟨d0, d1⟩ := ops12_cells (o := ⟨op, ob⟩) hT2.bel C0.out.2 C0.out.1
      have T2 := hid hT2
      clear hm hT2 c0 c1
      simp only at d0 d1
      have fin : Hid (∀ W F3 G3, PairAt w.heap.size w (EncO eb) (DecO db) F3 G3 (e.op op false) (d.op op).2 W → True) := fun _ _ _ _ => trivial
      clear fin
      by_cases h0 : op = 0
      · subst h0
        have e1 : d.op 0 = (d.bit (d.r / 2), d.narrow (d.r / 2)) := by unfold Dec.op; rw [if_pos rfl]
        rw [e1] at NX
        obtain ⟨hbit, hz⟩ := NX.out.1
        simp only at hbit
        have hb1 := hid hbit
        have hz1 := hid hz
        clear hbit hz
        go_wp2_with fail
        refine (dec_flat_o db d G2 _ (by exact T2.out.r) OK.out.2).mono ?_
        rintro y w6 ⟨rfl, hm⟩
        obtain ⟨F3, G3, hT3⟩ := T2.out.right (enc_obj eb) hm
        have T3 := hid hT3
        clear hm hT3 d0 d1
        rw [hb1.out]
        go_wp2_with fail
        refine (enc_len eb _ F3 _ (by exact T3.out.l) NX.out.2.2.2.2.1).mono ?_
        rintro y w7 ⟨rfl, m7, rfl⟩
        have T4 := hid (T3.out.read (enc_obj eb) (dec_obj db) (only_drewO _ m7))
        go_wp2_with fail
        refine (dec_over_o db _ G3 _ (by exact T4.out.r) NX.out.2.2.2.2.2).mono ?_
        rintro y w8 ⟨rfl, m8, rfl⟩
        rw [NX.out.2.2.2.1]
        have KK := hid (And.intro T.out.2.2.1 JJ.out)
        clear T T2 T4 hb1
        go_wp2_with fail
        have kk := KK.out
        go_roundg (gk - 1)
        case measure => omega
        case rel => exact ⟨j + 1, _, _, by omega, by omega, by go_num, ⟨F3, G3, T3.out.read (enc_obj eb) (dec_obj db) (only_drewO _ _)⟩, hz1.out, NX.out.2.1, NX.out.2.2.1⟩
      · have hz0 : (op == 0) = false := by simpa using h0
        by_cases h1 : 1 ≤ op ∧ op ≤ 2047
        · have e1 : d.op op = (d.bit (d.r / 2048 * op.toNat), d.narrow (d.r / 2048 * op.toNat)) := by unfold Dec.op; rw [if_neg h0, if_pos h1]
          rw [e1] at NX
          obtain ⟨hbit, hz⟩ := NX.out.1
          simp only at hbit
          obtain ⟨m, rfl⟩ := Int.eq_ofNat_of_zero_le (show 0 ≤ op by omega)
          simp only [Int.toNat_natCast] at hbit hz NX
          have hb1 := hid hbit
          have hz1 := hid hz
          have hm1 := hid (show 1 ≤ m ∧ m ≤ 2047 by omega)
          clear hbit hz h0 h1 e1
          go_wp2_with fail
          refine (dec_code_o db m d G2 _ (by exact T2.out.r) OK.out.2 hm1.out.1 hm1.out.2).mono ?_
          rintro y w6 ⟨rfl, hm⟩
          obtain ⟨F3, G3, hT3⟩ := T2.out.right (enc_obj eb) hm
          have T3 := hid hT3
          clear hm hT3 d0 d1
          rw [hb1.out]
          go_wp2_with fail
          refine (enc_len eb _ F3 _ (by exact T3.out.l) NX.out.2.2.2.2.1).mono ?_
          rintro y w7 ⟨rfl, m7, rfl⟩
          have T4 := hid (T3.out.read (enc_obj eb) (dec_obj db) (only_drewO _ m7))
          go_wp2_with fail
          refine (dec_over_o db _ G3 _ (by exact T4.out.r) NX.out.2.2.2.2.2).mono ?_
          rintro y w8 ⟨rfl, m8, rfl⟩
          rw [NX.out.2.2.2.1]
          have KK := hid (And.intro T.out.2.2.1 JJ.out)
          clear T T2 T4 hb1
          go_wp2_with fail
          have kk := KK.out
          go_roundg (gk - 1)
          case measure => omega
          case rel => exact ⟨j + 1, _, _, by omega, by omega, by go_num, ⟨F3, G3, T3.out.read (enc_obj eb) (dec_obj db) (only_drewO _ _)⟩, hz1.out, NX.out.2.1, NX.out.2.2.1⟩
        · have e1 : d.op op = (false, d) := by unfold Dec.op; rw [if_neg h0, if_neg h1]
          rw [e1] at NX
          have hz1 := hid NX.out.1.2
          have hm1 := hid (show op < 1 ∨ 2047 < op by omega)
          clear h0 h1 e1
          go_wp2_with fail
          refine (dec_code_no_o db op d G2 _ (by exact T2.out.r) hm1.out).mono ?_
          rintro y w6 ⟨rfl, rfl⟩
          clear d0 d1
          go_wp2_with fail
          refine (enc_len eb _ F2 _ (by exact T2.out.l) NX.out.2.2.2.2.1).mono ?_
          rintro y w7 ⟨rfl, m7, rfl⟩
          have T4 := hid (T2.out.read (enc_obj eb) (dec_obj db) (only_drewO _ m7))
          go_wp2_with fail
          refine (dec_over_o db _ G2 _ (by exact T4.out.r) NX.out.2.2.2.2.2).mono ?_
          rintro y w8 ⟨rfl, m8, rfl⟩
          rw [NX.out.2.2.2.1]
          have KK := hid (And.intro T.out.2.2.1 JJ.out)
          clear T T4
          go_wp2_with fail
          have kk := KK.out
          go_roundg (gk - 1)
          case measure => omega
          case rel => exact ⟨j + 1, _, _, by omega, by omega, by go_num, ⟨F2, G2, T2.out.read (enc_obj eb) (dec_obj db) (only_drewO _ _)⟩, hz1.out, NX.out.2.1, NX.out.2.2.1⟩
    · have hex : (l.length ≤ j ∨ (j < l.length ∧ 4000 ≤ j)) := by omega
      have hby := T.out.2.1.bytes
      have ho := T.out.2.2.2.1.up (show 3 * j ≤ 1000000000 by omega)
      have HB := hid (And.intro hby ho)
      clear hlt hby ho
      rcases hex with hj1 | ⟨hj1, hj3⟩
      all_goals
        first
          | have q1 : decide ((j : Int) < (l.length : Int)) = false := by simp; omega
          | have q1 : decide ((j : Int) < (l.length : Int)) = true := by simp; omega
        have q2 : 4000 ≤ j → decide ((j : Int) < 4000) = false := by intro h; simp; omega
        first
          | have q3 := q2 hj3
          | skip
        clear q2
        go_wp2_with fail
        refine (first_any _ (HG.out.1.below T.out.1.bel HG.out.2)).mono ?_
        rintro y w9 ⟨rfl, h9⟩
        have T6 := hid (T.out.1.below (enc_obj eb) (dec_obj db) h9)
        clear h9
        go_wp2_with fail
        refine (enc_end_o eb e F _ (by exact T6.out.l) HB.out.2).mono ?_
        rintro y w10 ⟨g, cap, rfl, h10, b10⟩
        rw [HB.out.1]
        have T7 := hid (T6.out.below (enc_obj eb) (dec_obj db) b10)
        clear h10 b10
        go_wp2_with fail
        go_ret
        exact ⟨rfl, T7.out.bel⟩
theorem zeros_law (y : Value) (l : List Op12) (w : World) (hy : OpsAt12 w y l) (_ : l.length ≤ maxLen) (hg : ErrT w) :
    Calls Tryd.prog 8 #[y] w fun e w' => e = .returned (.bool true) ∧ Below w.heap.size w w' := zeros_walk y l w hy hg
end Go.Proofs.YtgdhbmpdicdbpaaDoor
