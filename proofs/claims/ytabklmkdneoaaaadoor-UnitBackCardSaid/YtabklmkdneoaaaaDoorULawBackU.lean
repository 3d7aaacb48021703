/- UnitBack: the walk. -/
import Derived.Test.YtabklmkdneoaaaaDoorUBackN
import Derived.Test.YtabklmkdneoaaaaDoorULawTurned
import Derived.Deep.CutBlock
import Derived.Deep.Cut
namespace Go.Proofs.YtabklmkdneoaaaaDoor
open Go.RowKit

set_option maxRecDepth 100000 in
set_option maxHeartbeats 4000000 in
theorem uback_skip (x y : Value) (ds : List (List UInt8)) (a : Int) (w : World) (hy : Byts w y ds) (hg : ErrT w) (hf : fewOk ds = false) :
    Calls Tryd.prog 8 #[x, y, .int .i64 a] w fun e w' => e = .returned (.bool true) ∧ Below w.heap.size w w' := by
  have HG := hid (And.intro hg (And.intro hg.lt hy))
  clear hg hy
  go_enter Tryd.func8, Tryd.ntmps8
  go_wp2_with fail
  refine (ufirst_any _ HG.out.1).mono ?_
  rintro e w1 ⟨rfl, h1⟩
  have B1 := hid h1
  clear h1
  go_wp2_with fail
  refine (few_any y ds _ (HG.out.2.2.below B1.out)).mono ?_
  rintro e w2 ⟨rfl, rfl⟩
  rw [hf]
  go_wp2_with fail
  refine (ufirst_any _ (HG.out.1.below B1.out HG.out.2.1)).mono ?_
  rintro e w3 ⟨rfl, h1⟩
  have B2 := hid h1
  clear h1
  go_wp2_with fail
  go_ret
  exact ⟨rfl, B1.out.trans (B2.out.mono B1.out.size)⟩
/-- What UnitBack holds. -/
structure UB (w w0 : World) (ov ev av : Value) (ps : List Piece) (us : UV) (W : World) : Prop where
  et : ErrT W
  bel : Below w.heap.size w W
  m : MadeAt w0 ov ev av ps us W
theorem UB.step {w w0 : World} {ov ev av : Value} {ps : List Piece} {us : UV} {W W' : World} (h : UB w w0 ov ev av ps us W) (hb : Below W.heap.size W W') : UB w w0 ov ev av ps us W' :=
  ⟨h.et.below hb h.et.lt, h.bel.trans (hb.mono h.bel.size), h.m.step hb⟩
theorem MadeAt.end_cell {w0 : World} {ov av : Value} {A : Option Addr} {n c : Nat} {ps : List Piece} {us : UV} {W : World} (h : MadeAt w0 ov (.slice A n c) av ps us W) {i : Nat} {u : UnitS} (hu : (unitsAt 0 ps)[i]? = some u) :
    ∃ g, A = some ⟨g, 0, none⟩ ∧ W.cell? ⟨g, i, none⟩ = some (.int .i64 u.end_) := by
  have hi : i < ps.length := by have := (List.getElem?_eq_some_iff.1 hu).1; rw [unitsAt_len] at this; exact this
  have hc : (endCells (unitsAt 0 ps))[i]? = some (.int .i64 u.end_) := by unfold endCells; rw [List.getElem?_map, hu]; rfl
  have he := h.ends
  rcases he.2 with ⟨_, h0⟩ | ⟨g, cap, cur, e, _⟩
  · omega
  · injection e with e1 e2 e3
    subst e1
    have he2 := h.ends
    refine ⟨g, rfl, ?_⟩
    rw [e2] at he2
    exact (he2.cellAt i (by omega)).trans hc
set_option maxRecDepth 100000 in
set_option maxHeartbeats 8000000 in
theorem uback_walk (x y : Value) (ks : List Int) (ds : List (List UInt8)) (a : Int) (w : World) (hx : Ints w x ks) (_ : ks.length ≤ maxLen) (hy : Byts w y ds) (_ : ds.length ≤ maxLen) (ha : (Lit.int .i64 a).wf = true) (hg : ErrT w) :
    Calls Tryd.prog 8 #[x, y, .int .i64 a] w fun e w' => e = .returned (.bool true) ∧ Below w.heap.size w w' := by
  cases hf : fewOk ds
  · exact uback_skip x y ds a w hy hg hf
  · obtain ⟨ps, hps⟩ : ∃ ps, ps = piecesTo ks ds (min ks.length ds.length) := ⟨_, rfl⟩
    have hgood : ∀ p ∈ ps, Good p := by rw [hps]; exact piecesTo_good ks ds _
    have hplen : (bytesOf ps).length ≤ 30000 ∧ ps.length ≤ 200 := by
      have h1 := pieces_bytes (ks := ks) hf (min ks.length ds.length) (by omega) (by omega)
      have h2 := (few_each hf).2.1 (min ks.length ds.length)
      have h3 := (few_each hf).1
      rw [← hps] at h1
      omega
    have HM := hid (fun W (h1 : Ints W x ks) (h2 : Byts W y ds) => by have := made_any x y ks ds W h1 h2 hf; rw [← hps] at this; exact this)
    have HF := hid (fun W (h2 : Byts W y ds) => by have := few_any y ds W h2; rw [hf] at this; exact this)
    obtain ⟨L, hL⟩ : ∃ L, L = (bytesOf ps).length + 1 := ⟨_, rfl⟩
    obtain ⟨b, p, hp, hpL, hsign⟩ := turn_place a L (by omega) ha
    obtain ⟨nn, er, hn1, hcut, hle, hgt, hwh⟩ := unitsOf_cut ps hgood p (by omega)
    have hall := unitsOf_made ps hgood
    have HG := hid (And.intro hg (And.intro hg.lt (And.intro hx hy)))
    have PL := hid (And.intro hplen (And.intro hL (And.intro hpL (And.intro hn1 (And.intro hcut (And.intro hle (And.intro hgt (And.intro hwh hall))))))))
    clear hg hx hy ha hf hps hgood hplen hL hpL hn1 hcut hle hgt hwh hall
    have p0 : (0 : Int) ≤ (p : Int) := by omega
    have p1 : (p : Int) < (L : Int) := by have := PL.out.2.2.1; omega
    have p2 : (0 : Int) < (L : Int) := by omega
    have p3 : ¬ ((L : Int) = 0) := by omega
    have p4 : (L : Int) ≤ 30001 := by have := PL.out.1; have := PL.out.2.1; omega
    have hL2 : ((bytesOf ps).length : Int) + 1 = (L : Int) := by have := PL.out.2.1; omega
    have hLw : wrap64 (((bytesOf ps).length : Int) + 1) = (L : Int) := by rw [IntWalk.wrap64_in _ (by omega)]; exact hL2
    clear hL2
    go_enter Tryd.func8, Tryd.ntmps8
    go_wp2_with fail
    refine (ufirst_any _ HG.out.1).mono ?_
    rintro e w1 ⟨rfl, h1⟩
    have B1 := hid h1
    clear h1
    go_wp2_with fail
    refine (HF.out _ (HG.out.2.2.2.below B1.out)).mono ?_
    rintro e w2 ⟨rfl, rfl⟩
    go_wp2_with fail
    refine (HM.out _ (HG.out.2.2.1.below B1.out) (HG.out.2.2.2.below B1.out)).mono ?_
    rintro e w3 ⟨ov, ev, av, us, rfl, hM⟩
    obtain ⟨A1, c1, rfl, hc1⟩ := own_slice_cap hM.out
    obtain ⟨A2, c2, rfl, hc2⟩ := own_slice_cap hM.ends
    obtain ⟨A3, c3, rfl, hc3⟩ := own_slice_cap hM.all
    have T3 := hid (UB.mk (HG.out.1.below (B1.out.trans (hM.bel.mono B1.out.size)) HG.out.2.1) (B1.out.trans (hM.bel.mono B1.out.size)) hM)
    have hul := hM.len
    rw [hul] at T3 hc3 ⊢
    clear hM
    go_wp2_with fail
    refine (usplit_any _ (bytesOf ps) _ (Byt.of_own T3.out.m.out rfl) (by have := PL.out.1; omega)).mono ?_
    rintro e w4 ⟨lv, qs, fv, vs, fr, rfl, hU, hqs, hO, h4, hev⟩
    obtain ⟨rfl, rfl⟩ : unitsAt 0 ps = vs ∧ none = fr := by
      have := PL.out.2.2.2.2.2.2.2.2.symm.trans hU
      injection this with h5 h6
      exact ⟨h5, h6⟩
    dsimp only at hev
    subst hev
    obtain ⟨A4, c4, rfl⟩ := own_slice hO.row
    have T4 := hid (T3.out.step h4)
    have R4 := hid (And.intro hO.reads hqs)
    clear hU hqs hO h4
    go_wp2_with fail
    refine (units_same _ _ qs us _ (by exact R4.out.1) (by exact T4.out.m.reads) (by rw [R4.out.2, T4.out.m.fsts]) (by have := congrArg List.length R4.out.2; rw [unitsAt_len] at this; have := PL.out.1; simp at *; omega)).mono ?_
    rintro e w5 ⟨rfl, h5⟩
    have T5 := hid (T4.out.step h5)
    clear h5
    go_upto_if 43 with fail
    go_cut [2] from 44 to 46 (fun v W => v = .int .i64 b ∧ w5 = W)
    case first =>
      rcases hsign with ⟨hsg, hb⟩ | ⟨hsg, hb⟩
      all_goals
        go_wp2_with fail
        all_goals
          go_meet
          case rel =>
            refine ⟨?_, rfl⟩
            first
              | rfl
              | (rw [hb]; done)
              | (exfalso; simp at hsg; omega)
    case rest =>
      obtain ⟨rfl, rfl⟩ := hcut
      go_upto_block 0 with fail
      clear hLw hp
      go_cut [12] from 52 to 65 (fun v W => v = .int .i64 nn ∧ w5 = W)
      case first =>
        go_wp2_with fail
        go_loopg [12] nn (fun k iv wr => wr = w5 ∧ ∃ i : Nat, i + k = nn ∧ iv = .int .i64 i)
        case atStart => exact ⟨rfl, 0, by omega, rfl⟩
        case round =>
          obtain ⟨rfl, i, hi, rfl⟩ := hrel
          by_cases hlt : i < nn
          · obtain ⟨u, hu⟩ : ∃ u, (unitsAt 0 ps)[i]? = some u := ⟨(unitsAt 0 ps)[i]'(by rw [unitsAt_len]; have := PL.out.2.2.2.1; omega), List.getElem?_eq_getElem _⟩
            have hue := PL.out.2.2.2.2.2.1 i u hlt hu
            obtain ⟨g9, rfl, hc9⟩ := T5.out.m.end_cell hu
            have hip : i < ps.length := by have := PL.out.2.2.2.1; omega
            have d1 : decide ((i : Int) < (ps.length : Int)) = true := by simp; omega
            have d2 : decide ((u.end_ : Int) ≤ (p : Int)) = true := by simp; omega
            have k0 : (0 : Int) ≤ (i : Int) := by omega
            have k1 : (i : Int) < (ps.length : Int) := by omega
            have II := hid (And.intro hi hlt)
            clear hi hlt hu
            go_wp2_with fail
            obtain ⟨hi, hlt⟩ := II.out
            have hi2 := PL.out.1
            have hi3 := PL.out.2.2.2.1
            go_roundg (gk - 1)
            case measure => omega
            case rel => exact ⟨rfl, i + 1, by omega, by rw [IntWalk.wrap64_in _ (by constructor <;> omega)]; rfl⟩
          · obtain rfl : i = nn := by omega
            have hends : (ps.length ≤ i ∧ decide ((i : Int) < (ps.length : Int)) = false) ∨ (i < ps.length ∧ decide ((i : Int) < (ps.length : Int)) = true ∧ ∃ u g9, A2 = some ⟨g9, 0, none⟩ ∧ wr.cell? ⟨g9, i, none⟩ = some (.int .i64 (u : Nat)) ∧ decide ((u : Int) ≤ (p : Int)) = false ∧ p < u) := by
              rcases Nat.lt_or_ge i ps.length with h | h
              · obtain ⟨u, hu⟩ : ∃ u, (unitsAt 0 ps)[i]? = some u := ⟨(unitsAt 0 ps)[i]'(by rw [unitsAt_len]; omega), List.getElem?_eq_getElem _⟩
                have hue := PL.out.2.2.2.2.2.2.1 u hu
                obtain ⟨g9, h1, h2⟩ := T5.out.m.end_cell hu
                exact .inr ⟨h, by simp; omega, u.end_, g9, h1, h2, by simp; omega, hue⟩
              · exact .inl ⟨h, by simp; omega⟩
            rcases hends with ⟨hn0, hn⟩ | ⟨hn0, hn, uu, g9, rfl, hc9, hn2, hn3⟩
            all_goals
              go_wp2_with fail
              go_meet
              case rel => exact ⟨rfl, rfl⟩
      case rest =>
        obtain ⟨rfl, rfl⟩ := hcut
        obtain ⟨i, rfl⟩ : ∃ i, i = nn := ⟨_, rfl⟩
        have hcases : (i = 0 ∧ p = 0 ∧ er = none) ∨ (i = 0 ∧ p ≠ 0 ∧ er ≠ none) ∨ (∃ m u g8, i = m + 1 ∧ A2 = some ⟨g8, 0, none⟩ ∧ (w5.cell? ⟨g8, m, none⟩ = some (.int .i64 (u : Nat))) ∧ ((u = p ∧ er = none) ∨ (u ≠ p ∧ er ≠ none))) := by
          have hw := PL.out.2.2.2.2.2.2.2.1
          rcases Nat.eq_zero_or_pos i with h0 | h0
          · subst h0
            by_cases hp0 : p = 0
            · exact .inl ⟨rfl, hp0, hw.2 (.inl ⟨rfl, hp0⟩)⟩
            · refine .inr (.inl ⟨rfl, hp0, fun e => ?_⟩)
              rcases hw.1 e with ⟨_, h1⟩ | ⟨u, h1, _⟩
              · exact hp0 h1
              · omega
          · obtain ⟨m, rfl⟩ : ∃ m, i = m + 1 := ⟨i - 1, by omega⟩
            obtain ⟨u, hu⟩ : ∃ u, (unitsAt 0 ps)[m]? = some u := ⟨(unitsAt 0 ps)[m]'(by rw [unitsAt_len]; have := PL.out.2.2.2.1; omega), List.getElem?_eq_getElem _⟩
            obtain ⟨g8, h1, h2⟩ := T5.out.m.end_cell hu
            refine .inr (.inr ⟨m, u.end_, g8, rfl, h1, h2, ?_⟩)
            by_cases hup : u.end_ = p
            · exact .inl ⟨hup, hw.2 (.inr ⟨u, by omega, hu, hup⟩)⟩
            · refine .inr ⟨hup, fun e => ?_⟩
              rcases hw.1 e with ⟨h1, _⟩ | ⟨u', _, h2, h3⟩
              · omega
              · rw [Nat.add_sub_cancel, hu] at h2
                injection h2 with h2
                subst h2
                exact hup h3
        have HC := hid hcases
        clear hcases
        have hcp : ¬ (c1 < p) := by have := PL.out.2.1; have := PL.out.2.2.1; omega
        have hci : ¬ (c3 < i) := by have := PL.out.2.2.2.1; omega
        have k0 : (0 : Int) ≤ (i : Int) := by omega
        go_wp2_with fail
        refine (usplit_any _ ((bytesOf ps).take p) _ (Byt.take (Byt.of_own T5.out.m.out rfl) (by have := PL.out.2.1; have := PL.out.2.2.1; omega)) (by have := PL.out.1; rw [List.length_take]; omega)).mono ?_
        rintro e w6 ⟨mv, rs, gv, ts, gr, rfl, hU, hrs, hO, h6, hev⟩
        obtain ⟨rfl, rfl⟩ : (unitsAt 0 ps).take i = ts ∧ er = gr := by
          have := PL.out.2.2.2.2.1.symm.trans hU
          injection this with h5 h6
          exact ⟨h5, h6⟩
        obtain ⟨A6, c6, rfl⟩ := own_slice hO.row
        have T6 := hid (T5.out.step h6)
        have hrl : rs.length ≤ 1000 := by
          have h9 := congrArg List.length hrs
          rw [List.length_map, List.length_take, unitsAt_len] at h9
          have := PL.out.1
          omega
        have R6 := hid (And.intro hO.reads (And.intro hrs hrl))
        have E6 := hid (show EvU w6 er gv by rcases er with _ | ⟨q, c⟩ <;> exact hev)
        have BW6 := hid h6
        clear hU hrs hO h6 hev hrl
        rcases HC.out with ⟨hi0, hp0, her⟩ | ⟨hi0, hp0, her⟩ | ⟨m, u, g8, him, hA2, hcl, hup⟩
        · subst hi0 hp0 her
          have e6 := E6.out
          have e6' : gv = .nilIface := e6
          subst e6'
          clear e6
          go_wp2_with fail
          refine (ufirst_any _ (by exact T6.out.et)).mono ?_
          rintro e w7 ⟨rfl, h7⟩
          have T7 := hid (T6.out.step h7)
          have R7 := hid (R6.out.1.below h7)
          clear h7
          go_wp2_with fail
          refine (units_same _ _ rs (us.take 0) _ (by exact R7.out) (T7.out.m.reads.take (Nat.zero_le _)) (by rw [R6.out.2.1, List.map_take, T6.out.m.fsts]) (by have := R6.out.2.2; omega)).mono ?_
          rintro e w8 ⟨rfl, h8⟩
          have T8 := hid (T7.out.step h8)
          clear h8
          go_wp2_with fail
          go_ret
          exact ⟨rfl, T8.out.bel⟩
        · subst hi0
          have hev : ∃ t z, gv = .iface t z := by
            rcases E6.out.form with ⟨h1, _⟩ | ⟨_, h1⟩
            · exact absurd h1 her
            · exact h1
          obtain ⟨t9, z9, rfl⟩ := hev
          have hpz : ((p : Int) == 0) = false := by simp; omega
          go_wp2_with fail
          refine (ufirst_any _ (by exact T6.out.et)).mono ?_
          rintro e w7 ⟨rfl, h7⟩
          have T7 := hid (T6.out.step h7)
          have R7 := hid (R6.out.1.below h7)
          clear h7
          go_wp2_with fail
          refine (units_same _ _ rs (us.take 0) _ (by exact R7.out) (T7.out.m.reads.take (Nat.zero_le _)) (by rw [R6.out.2.1, List.map_take, T6.out.m.fsts]) (by have := R6.out.2.2; omega)).mono ?_
          rintro e w8 ⟨rfl, h8⟩
          have T8 := hid (T7.out.step h8)
          clear h8
          go_wp2_with fail
          go_ret
          exact ⟨rfl, T8.out.bel⟩
        · subst him
          have hcl6 := cell_keep BW6.out hcl
          have hm1 : m < ps.length := by have := PL.out.2.2.2.1; omega
          have hps := PL.out.1.2
          first
            | subst hA2
            | (injection hA2 with hA2
               injection hA2 with hA2
               subst hA2)
          have hmu : m + 1 ≤ us.length := by rw [T5.out.m.len]; omega
          have hrs1 : rs.length ≤ 1000000 := by have := R6.out.2.2; omega
          have q0 : (0 : Int) ≤ (m : Int) := by omega
          have q1 : (m : Int) < (ps.length : Int) := by omega
          have ez : (((m : Int) + 1) == 0) = false := by simp; omega
          have ep : (0 : Int) < (m : Int) + 1 := by omega
          have ew : IntKind.i64.wrap ((m : Int) + 1 - 1) = (m : Int) := by rw [IntWalk.i64_in _ (by omega)]; omega
          clear hcl
          rcases hup with ⟨hup, her⟩ | ⟨hup, her⟩
          · have hgv : gv = .nilIface := by
              have := E6.out
              rw [her] at this
              exact this
            subst hgv
            have hpz : ((u : Int) == (p : Int)) = true := by rw [hup]; simp
            clear hup
            go_wp2_with fail
            refine (ufirst_any _ (by exact T6.out.et)).mono ?_
            rintro e w7 ⟨rfl, h7⟩
            have T7 := hid (T6.out.step h7)
            have R7 := hid (R6.out.1.below h7)
            clear h7
            go_wp2_with fail
            refine (units_same _ _ rs (us.take (m + 1)) _ (by exact R7.out) (T7.out.m.reads.take hmu) (by rw [R6.out.2.1, List.map_take, T6.out.m.fsts]) hrs1).mono ?_
            rintro e w8 ⟨rfl, h8⟩
            have T8 := hid (T7.out.step h8)
            clear h8
            go_wp2_with fail
            go_ret
            exact ⟨rfl, T8.out.bel⟩
          · have hev : ∃ t z, gv = .iface t z := by
              rcases E6.out.form with ⟨h1, _⟩ | ⟨_, h1⟩
              · exact absurd h1 her
              · exact h1
            obtain ⟨t9, z9, rfl⟩ := hev
            have hpz : ((u : Int) == (p : Int)) = false := by simp only [beq_eq_false_iff_ne, ne_eq, Int.natCast_inj]; exact hup
            clear hup
            go_wp2_with fail
            refine (ufirst_any _ (by exact T6.out.et)).mono ?_
            rintro e w7 ⟨rfl, h7⟩
            have T7 := hid (T6.out.step h7)
            have R7 := hid (R6.out.1.below h7)
            clear h7
            go_wp2_with fail
            refine (units_same _ _ rs (us.take (m + 1)) _ (by exact R7.out) (T7.out.m.reads.take hmu) (by rw [R6.out.2.1, List.map_take, T6.out.m.fsts]) hrs1).mono ?_
            rintro e w8 ⟨rfl, h8⟩
            have T8 := hid (T7.out.step h8)
            clear h8
            go_wp2_with fail
            go_ret
            exact ⟨rfl, T8.out.bel⟩
end Go.Proofs.YtabklmkdneoaaaaDoor
