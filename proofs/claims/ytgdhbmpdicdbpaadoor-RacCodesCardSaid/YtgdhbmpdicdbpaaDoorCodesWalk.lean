/- RacCodes: the walk. -/
import Derived.Test.YtgdhbmpdicdbpaaDoorLawCodes
import Derived.Test.YtgdhbmpdicdbpaaDoorLawSize
namespace Go.Proofs.YtgdhbmpdicdbpaaDoor
open Go.RowKit

set_option maxRecDepth 100000 in
set_option maxHeartbeats 4000000 in
theorem codes_walk (y : Value) (l : List Op12) (w : World) (hy : OpsAt12 w y l) (_ : l.length ≤ maxLen) (hg : ErrT w) :
    Calls Tryd.prog 3 #[y] w fun e w' => e = .returned (.bool true) ∧ Below w.heap.size w w' := by
  obtain ⟨A2, c2, rfl, hy2⟩ := hy
  have Y := hid hy2
  have HG := hid (And.intro hg hg.lt)
  clear hy2 hg
  go_enter Tryd.func3, Tryd.ntmps3
  go_wp2_with fail
  refine (first_any _ HG.out.1).mono ?_
  rintro e w1 ⟨rfl, h1⟩
  have B1 := hid h1
  clear h1
  go_wp2_with fail
  refine (new_enc_o _).mono ?_
  rintro e w2 ⟨eb, F, rfl, a1, f1, b1⟩
  have A1 := hid (And.intro a1 (And.intro f1 b1))
  clear a1 f1 b1
  go_wp2_with fail
  refine (new_renc_o _).mono ?_
  rintro e w3 ⟨xb, G, rfl, a2, f2, b2⟩
  have T := hid (PairAt.mk2 (B := w.heap.size) (w0 := w) (enc_obj eb) A1.out.1 (fun k hk => by have := A1.out.2.1 k hk; have := B1.out.size; omega) (B1.out.trans (A1.out.2.2.mono B1.out.size)) (by have := A1.out.2.2.size; have := B1.out.size; omega) a2 f2 b2)
  clear a2 f2 b2
  go_wp2_with fail
  go_loopg [5] l.length (fun k i wr => ∃ (j : Nat) (e : Enc) (x : REnc), j + k = l.length ∧ j ≤ 4000 ∧ i = .int .i64 j ∧ Pair w.heap.size w (EncO eb) (REncO xb) e x wr ∧ BothE e x j)
  case atStart => exact ⟨0, _, _, by omega, by omega, rfl, ⟨F, G, T.out⟩, BothE.new⟩
  case round =>
    clear T A1 B1
    obtain ⟨j, e, x, hj, hj2, rfl, ⟨F, G, hT⟩, hz⟩ := hrel
    have T := hid (And.intro hT (And.intro hz hj))
    clear hT hz hj
    by_cases hlt : j < l.length ∧ j < 4000
    · have j1 : decide ((j : Int) < (l.length : Int)) = true := by simp; omega
      have j2 : decide ((j : Int) < 4000) = true := by simp; omega
      have JJ := hid hlt
      clear hlt
      obtain ⟨o, hoj⟩ : ∃ o, l[j]? = some o := ⟨l[j]'JJ.out.1, List.getElem?_eq_getElem JJ.out.1⟩
      obtain ⟨lb, off, rfl, hlb, hcs⟩ := Y.out (by intro e; rw [e] at hoj; simp at hoj)
      obtain ⟨c0, c1⟩ := ops12_cells T.out.1.bel hlb (hcs j o hoj)
      have C0 := hid (And.intro (hcs j o hoj) hlb)
      clear hcs hoj
      have k0 : (0 : Int) ≤ (j : Int) := by omega
      have k1 : (j : Int) < (l.length : Int) := by have := JJ.out.1; omega
      obtain ⟨op, ob⟩ := o
      simp only at c0 c1
      have ho1 := T.out.2.1.ok1.up (show 3 * j ≤ 1000000000 by omega)
      have ho2 := T.out.2.1.ok2.up (show 4 + 3 * j ≤ 1000000004 by omega)
      have OK := hid (And.intro ho1 ho2)
      have NX := hid (T.out.2.1.op op ob)
      clear ho1 ho2
      by_cases h0 : op = 0
      · subst h0
        have e1 : e.op 0 ob = e.narrow (e.r / 2) ob := by unfold Enc.op; rw [if_pos rfl]
        have e2 : x.op 0 ob = x.narrow (x.R / 2) ob := by unfold REnc.op; rw [if_pos rfl]
        have EE := hid (And.intro e1 e2)
        clear e1 e2
        go_wp2_with fail
        refine (enc_flat_o eb ob e F _ (by exact T.out.1.l) OK.out.1).mono ?_
        rintro y w5 ⟨rfl, hm⟩
        obtain ⟨F2, G2, hT2⟩ := T.out.1.left (renc_obj xb) hm
        obtain ⟨d0, d1⟩ := ops12_cells (o := ⟨0, ob⟩) hT2.bel C0.out.2 C0.out.1
        have T2 := hid hT2
        clear hm hT2 c0 c1
        simp only at d0 d1
        go_wp2_with fail
        refine (renc_flat_o xb ob x G2 _ (by exact T2.out.r) OK.out.2).mono ?_
        rintro y w6 ⟨rfl, hm⟩
        obtain ⟨F3, G3, hT3⟩ := T2.out.right (enc_obj eb) hm
        rw [← EE.out.1, ← EE.out.2] at hT3
        have T3 := hid hT3
        clear hm hT3 d0 d1 T2
        have hbe := NX.out.len
        have hby := hid NX.out.bytes
        have hok := hid (NX.out.ok1.up (show 3 * (j + 1) ≤ 1000000000 by omega))
        have KK := hid (And.intro T.out.2.2 JJ.out)
        have LL := hid hbe
        clear hbe
        have hmod : ((((j : Int) % 97) == 0) = true) ∨ ((((j : Int) % 97) == 0) = false) := by cases (((j : Int) % 97) == 0) <;> simp
        rcases hmod with hmod | hmod
        all_goals
          go_wp2_with fail
          refine (enc_len eb _ F3 _ (by exact T3.out.l) hok.out).mono ?_
          rintro y w8 ⟨rfl, m8, rfl⟩
          have T4 := hid (T3.out.read (enc_obj eb) (renc_obj xb) (only_drewO _ m8))
          go_wp2_with fail
          refine (renc_len xb _ G3 _ (by exact T4.out.r)).mono ?_
          rintro y w9 ⟨rfl, m9, rfl⟩
          rw [LL.out]
          go_wp2_with fail
        · have T5 := hid (T3.out.read (enc_obj eb) (renc_obj xb) (only_drewO _ (m8 + m9)))
          refine (enc_end_o eb _ F3 _ (by exact T5.out.l) hok.out).mono ?_
          rintro y w10 ⟨g1, p1, rfl, o1, b1⟩
          have T6 := hid (T5.out.below (enc_obj eb) (renc_obj xb) b1)
          have O1 := hid (From.of_own o1)
          clear o1 b1
          go_wp2_with fail
          refine (renc_end_o xb _ G3 _ (by exact T6.out.r)).mono ?_
          rintro y w11 ⟨g2, p2, rfl, o2, b2⟩
          rw [hby.out] at o2
          rw [hby.out]
          have T7 := hid (T6.out.below (enc_obj eb) (renc_obj xb) b2)
          have O2 := hid (From.of_own o2)
          have O3 := hid (From.below12 O1.out b2)
          clear o2 b2
          go_wp2_with fail
          refine (bytes_same (by exact O3.out) (by exact O2.out)).mono ?_
          rintro y w12 ⟨rfl, rfl⟩
          go_wp2_with fail
          have kk := KK.out
          go_roundg (gk - 1)
          case measure => omega
          case rel => exact ⟨j + 1, _, _, by omega, by omega, by go_num, ⟨F3, G3, T7.out⟩, NX.out⟩
        · have kk := KK.out
          go_roundg (gk - 1)
          case measure => omega
          case rel => exact ⟨j + 1, _, _, by omega, by omega, by go_num, ⟨F3, G3, T3.out.read (enc_obj eb) (renc_obj xb) (only_drewO _ _)⟩, NX.out⟩
      · have hz0 : (op == 0) = false := by simpa using h0
        by_cases h1 : 1 ≤ op ∧ op ≤ 2047
        · have e1 : e.op op ob = e.narrow (e.r / 2048 * op.toNat) ob := by unfold Enc.op; rw [if_neg h0, if_pos h1]
          have e2 : x.op op ob = x.narrow (x.R / 2048 * op.toNat) ob := by unfold REnc.op; rw [if_neg h0, if_pos h1]
          obtain ⟨m, rfl⟩ := Int.eq_ofNat_of_zero_le (show 0 ≤ op by omega)
          simp only [Int.toNat_natCast] at e1 e2
          have EE := hid (And.intro e1 e2)
          have hm1 := hid (show 1 ≤ m ∧ m ≤ 2047 by omega)
          have Td := hid (T.out.1.read (enc_obj eb) (renc_obj xb) ((Only.refl _ wr).drew))
          clear e1 e2 h0 h1
          go_wp2_with fail
          go_region_held3 (fun W => W.cell? ⟨lb, off + j * 2, none⟩ = some (.int .i64 (m : Int)) ∧ W.cell? ⟨lb, off + j * 2 + 1, none⟩ = some (.bool ob))
            (first
              | exact ⟨c0, c1⟩
              | exact ⟨d0, d1⟩
              | exact ⟨f0, f1⟩
              | exact ⟨g0, g1⟩)
            (first
              | (go_at_call 15
                 refine (enc_code_o eb m ob e F _ (by first | exact Td.out.l | exact T.out.1.l) OK.out.1 hm1.out.1 hm1.out.2).mono ?_
                 rintro y w5 ⟨rfl, hm⟩
                 obtain ⟨F2, G2, hT2⟩ := PairAt.left (renc_obj xb) (by first | exact Td.out | exact T.out.1) hm
                 obtain ⟨d0, d1⟩ := ops12_cells (o := ⟨m, ob⟩) hT2.bel C0.out.2 C0.out.1
                 have T2 := hid hT2
                 clear hm hT2)
              | (go_at_call 16
                 refine (renc_code_o xb m ob x G2 _ (by exact T2.out.r) OK.out.2 hm1.out.1 hm1.out.2).mono ?_
                 rintro y w6 ⟨rfl, hm⟩
                 obtain ⟨F3, G3, hT3⟩ := T2.out.right (enc_obj eb) hm
                 rw [← EE.out.1, ← EE.out.2] at hT3
                 obtain ⟨f0, f1⟩ := ops12_cells (o := ⟨m, ob⟩) hT3.bel C0.out.2 C0.out.1
                 have T3a := hid hT3
                 clear hm hT3)
              | (go_at_call 14
                 refine (err_same0 _ (HG.out.1.below T3a.out.bel HG.out.2)).mono ?_
                 rintro y w7 ⟨rfl, hb⟩
                 have T3 := hid (T3a.out.below (enc_obj eb) (renc_obj xb) hb)
                 obtain ⟨g0, g1⟩ := ops12_cells (o := ⟨m, ob⟩) T3.out.bel C0.out.2 C0.out.1
                 clear hb))
          all_goals
            have hbe := NX.out.len
            have hby := hid NX.out.bytes
            have hok := hid (NX.out.ok1.up (show 3 * (j + 1) ≤ 1000000000 by omega))
            have KK := hid (And.intro T.out.2.2 JJ.out)
            have LL := hid hbe
            clear hbe
            have hmod : ((((j : Int) % 97) == 0) = true) ∨ ((((j : Int) % 97) == 0) = false) := by cases (((j : Int) % 97) == 0) <;> simp
            rcases hmod with hmod | hmod
            all_goals
              go_wp2_with fail
              refine (enc_len eb _ F3 _ (by exact T3.out.l) hok.out).mono ?_
              rintro y w8 ⟨rfl, m8, rfl⟩
              have T4 := hid (T3.out.read (enc_obj eb) (renc_obj xb) (only_drewO _ m8))
              go_wp2_with fail
              refine (renc_len xb _ G3 _ (by exact T4.out.r)).mono ?_
              rintro y w9 ⟨rfl, m9, rfl⟩
              rw [LL.out]
              go_wp2_with fail
            · have T5 := hid (T3.out.read (enc_obj eb) (renc_obj xb) (only_drewO _ (m8 + m9)))
              refine (enc_end_o eb _ F3 _ (by exact T5.out.l) hok.out).mono ?_
              rintro y w10 ⟨g1, p1, rfl, o1, b1⟩
              have T6 := hid (T5.out.below (enc_obj eb) (renc_obj xb) b1)
              have O1 := hid (From.of_own o1)
              clear o1 b1
              go_wp2_with fail
              refine (renc_end_o xb _ G3 _ (by exact T6.out.r)).mono ?_
              rintro y w11 ⟨g2, p2, rfl, o2, b2⟩
              rw [hby.out] at o2
              rw [hby.out]
              have T7 := hid (T6.out.below (enc_obj eb) (renc_obj xb) b2)
              have O2 := hid (From.of_own o2)
              have O3 := hid (From.below12 O1.out b2)
              clear o2 b2
              go_wp2_with fail
              refine (bytes_same (by exact O3.out) (by exact O2.out)).mono ?_
              rintro y w12 ⟨rfl, rfl⟩
              go_wp2_with fail
              have kk := KK.out
              go_roundg (gk - 1)
              case measure => omega
              case rel => exact ⟨j + 1, _, _, by omega, by omega, by go_num, ⟨F3, G3, T7.out⟩, NX.out⟩
            · have kk := KK.out
              go_roundg (gk - 1)
              case measure => omega
              case rel => exact ⟨j + 1, _, _, by omega, by omega, by go_num, ⟨F3, G3, T3.out.read (enc_obj eb) (renc_obj xb) (only_drewO _ _)⟩, NX.out⟩
        · have e1 : e.op op ob = e := by unfold Enc.op; rw [if_neg h0, if_neg h1]
          have e2 : x.op op ob = x := by unfold REnc.op; rw [if_neg h0, if_neg h1]
          have EE := hid (And.intro e1 e2)
          have hm1 := hid (show op < 1 ∨ 2047 < op by omega)
          have Td := hid (T.out.1.read (enc_obj eb) (renc_obj xb) ((Only.refl _ wr).drew))
          clear e1 e2 h0 h1
          go_wp2_with fail
          go_region_held3 (fun W => W.cell? ⟨lb, off + j * 2, none⟩ = some (.int .i64 op) ∧ W.cell? ⟨lb, off + j * 2 + 1, none⟩ = some (.bool ob))
            (first
              | exact ⟨c0, c1⟩
              | exact ⟨f0, f1⟩
              | exact ⟨g0, g1⟩)
            (first
              | (go_at_call 15
                 refine (enc_code_no eb op ob _ hm1.out).mono ?_
                 rintro y w5 ⟨rfl, rfl⟩)
              | (go_at_call 16
                 refine (renc_code_no xb op ob _ hm1.out).mono ?_
                 rintro y w6 ⟨rfl, hb⟩
                 have T3a := hid (PairAt.below (enc_obj eb) (renc_obj xb) (by first | exact Td.out | exact T.out.1) hb)
                 obtain ⟨f0, f1⟩ := ops12_cells (o := ⟨op, ob⟩) T3a.out.bel C0.out.2 C0.out.1
                 clear hb)
              | (go_at_call 14
                 refine (err_same3 _ (HG.out.1.below T3a.out.bel HG.out.2)).mono ?_
                 rintro y w7 ⟨rfl, hb⟩
                 have T3 := hid (T3a.out.below (enc_obj eb) (renc_obj xb) hb)
                 obtain ⟨g0, g1⟩ := ops12_cells (o := ⟨op, ob⟩) T3.out.bel C0.out.2 C0.out.1
                 clear hb))
          all_goals
            have T3 : Hid (PairAt w.heap.size w (EncO eb) (REncO xb) F G (e.op op ob) (x.op op ob) w7) := by rw [EE.out.1, EE.out.2]; exact T3
            have hbe := NX.out.len
            have hby := hid NX.out.bytes
            have hok := hid (NX.out.ok1.up (show 3 * (j + 1) ≤ 1000000000 by omega))
            have KK := hid (And.intro T.out.2.2 JJ.out)
            have LL := hid hbe
            clear hbe
            have hmod : ((((j : Int) % 97) == 0) = true) ∨ ((((j : Int) % 97) == 0) = false) := by cases (((j : Int) % 97) == 0) <;> simp
            rcases hmod with hmod | hmod
            all_goals
              go_wp2_with fail
              refine (enc_len eb _ F _ (by exact T3.out.l) hok.out).mono ?_
              rintro y w8 ⟨rfl, m8, rfl⟩
              have T4 := hid (T3.out.read (enc_obj eb) (renc_obj xb) (only_drewO _ m8))
              go_wp2_with fail
              refine (renc_len xb _ G _ (by exact T4.out.r)).mono ?_
              rintro y w9 ⟨rfl, m9, rfl⟩
              rw [LL.out]
              go_wp2_with fail
            · have T5 := hid (T3.out.read (enc_obj eb) (renc_obj xb) (only_drewO _ (m8 + m9)))
              refine (enc_end_o eb _ F _ (by exact T5.out.l) hok.out).mono ?_
              rintro y w10 ⟨g1, p1, rfl, o1, b1⟩
              have T6 := hid (T5.out.below (enc_obj eb) (renc_obj xb) b1)
              have O1 := hid (From.of_own o1)
              clear o1 b1
              go_wp2_with fail
              refine (renc_end_o xb _ G _ (by exact T6.out.r)).mono ?_
              rintro y w11 ⟨g2, p2, rfl, o2, b2⟩
              rw [hby.out] at o2
              rw [hby.out]
              have T7 := hid (T6.out.below (enc_obj eb) (renc_obj xb) b2)
              have O2 := hid (From.of_own o2)
              have O3 := hid (From.below12 O1.out b2)
              clear o2 b2
              go_wp2_with fail
              refine (bytes_same (by exact O3.out) (by exact O2.out)).mono ?_
              rintro y w12 ⟨rfl, rfl⟩
              go_wp2_with fail
              have kk := KK.out
              go_roundg (gk - 1)
              case measure => omega
              case rel => exact ⟨j + 1, _, _, by omega, by omega, by go_num, ⟨F, G, T7.out⟩, NX.out⟩
            · have kk := KK.out
              go_roundg (gk - 1)
              case measure => omega
              case rel => exact ⟨j + 1, _, _, by omega, by omega, by go_num, ⟨F, G, T3.out.read (enc_obj eb) (renc_obj xb) (only_drewO _ _)⟩, NX.out⟩
    · have hex : (l.length ≤ j ∨ (j < l.length ∧ 4000 ≤ j)) := by omega
      have ho := T.out.2.1.ok1.up (show 3 * j ≤ 1000000000 by omega)
      have hbl : e.bytes.length ≤ 1000000 := by have := bytes_le e; have := T.out.2.1.ok1.len; omega
      have hby := T.out.2.1.bytes
      have HB := hid (And.intro hby ho)
      clear hlt hby ho
      rcases hex with hj1 | ⟨hj1, hj3⟩
      all_goals
        first
          | have q1 : decide ((j : Int) < (l.length : Int)) = false := by simp; omega
          | have q1 : decide ((j : Int) < (l.length : Int)) = true := by simp; omega
        have q2 : 4000 ≤ j → decide ((j : Int) < 4000) = false := by intro h; simp; omega
        first
          | have q3 := q2 hj3
          | skip
        clear q2
        go_wp2_with fail
        refine (enc_end_o eb e F _ (by exact T.out.1.l) HB.out.2).mono ?_
        rintro y w10 ⟨g, cap, rfl, h10, b10⟩
        generalize hbs : e.bytes = bs at *
        have HBS := hid hbs
        clear hbs
        have T7 := hid (T.out.1.below (enc_obj eb) (renc_obj xb) b10)
        have hg := h10.lt g rfl
        have hF : ∀ k, F k → k ≠ g := fun k hk => by have := (enc_obj eb).there _ _ _ k T.out.1.l hk; omega
        have hG : ∀ k, G k → k ≠ g := fun k hk => by have := (renc_obj xb).there _ _ _ k T.out.1.r hk; omega
        have hgB : w.heap.size ≤ g := by have := T.out.1.size; omega
        have GG := hid (And.intro h10 (And.intro hF (And.intro hG hgB)))
        clear h10 b10 hg hF hG hgB
        go_wp2_with fail
        go_loopg [7] bs.length (fun k i wr2 => ∃ (m : Nat) (cur : List UInt8), m + k = bs.length ∧ i = .int .i64 m ∧ cur.length = bs.length ∧ wr2.ownsRow wr.heap.size 5 1 (.slice (some ⟨g, 0, none⟩) bs.length cap) bs.length (cur.map byteV) ∧ Only (· = g) w10 wr2)
        case atStart => exact ⟨0, bs, by omega, rfl, rfl, GG.out.1, Only.refl _ _⟩
        case round =>
          obtain ⟨m, cur, hm, rfl, hcl, hown, ho⟩ := hrel
          by_cases hlt : m < bs.length
          · obtain ⟨q, hq⟩ : ∃ q, cur[m]? = some q := ⟨cur[m]'(by omega), List.getElem?_eq_getElem (by omega)⟩
            have hx := hown.cellAt m (by omega)
            have fx := hown.frozenAt m
            simp [hq, byteV] at hx
            have hn := u8_not12 q
            have m0 : (0 : Int) ≤ (m : Int) := by omega
            have m1 : (m : Int) < (bs.length : Int) := by omega
            have XX := hid (And.intro hown (And.intro ho (And.intro hcl (And.intro hm hq))))
            have hqlt := q.toNat_lt
            generalize hqn : q.toNat = qn at *
            generalize hqm : (q ^^^ 255).toNat = qm at *
            have QQ := hid (And.intro hqn hqm)
            clear hown ho hq hcl hm hqn hqm
            go_wp2_with fail
            obtain ⟨hown, ho, hcl, hm, hq⟩ := XX.out
            go_roundg (gk - 1)
            case measure => omega
            case rel =>
              refine ⟨m + 1, cur.set m (q ^^^ 255), by omega, by go_num, by simpa using hcl, ?_, ho.put (by rfl) m _⟩
              have := (hown.stored m (byteV (q ^^^ 255))).1
              rw [set_byte12] at this
              rw [← QQ.out.2]
              exact this
          · have T8 := hid (T7.out.keep (enc_obj eb) (renc_obj xb) ho GG.out.2.1 GG.out.2.2.1 (fun k hk => by have := GG.out.2.2.2; omega))
            have hm1 : decide ((m : Int) < (bs.length : Int)) = false := by simp; omega
            have hge : bs.length ≤ m := by omega
            clear ho hown hm hcl hlt
            go_wp2_with fail
            refine (first_any _ (HG.out.1.below T8.out.bel HG.out.2)).mono ?_
            rintro y w11 ⟨rfl, h11⟩
            have T9 := hid (T8.out.below (enc_obj eb) (renc_obj xb) h11)
            clear h11
            go_wp2_with fail
            refine (enc_end_o eb e F _ (by exact T9.out.l) HB.out.2).mono ?_
            rintro y w12 ⟨g1, p1, rfl, o1, b1⟩
            have T10 := hid (T9.out.below (enc_obj eb) (renc_obj xb) b1)
            have O1 := hid (From.of_own o1)
            clear o1 b1
            go_wp2_with fail
            refine (renc_end_o xb x G _ (by exact T10.out.r)).mono ?_
            rintro y w13 ⟨g2, p2, rfl, o2, b2⟩
            rw [HB.out.1] at o2
            rw [HB.out.1]
            have T11 := hid (T10.out.below (enc_obj eb) (renc_obj xb) b2)
            have O2 := hid (From.of_own o2)
            have O3 := hid (From.below12 O1.out b2)
            clear o2 b2
            go_wp2_with fail
            refine (bytes_same (bs := e.bytes) (by exact O3.out) (by rw [HBS.out]; exact O2.out)).mono ?_
            rintro y w14 ⟨rfl, rfl⟩
            go_wp2_with fail
            go_ret
            exact ⟨rfl, T11.out.bel⟩
end Go.Proofs.YtgdhbmpdicdbpaaDoor
