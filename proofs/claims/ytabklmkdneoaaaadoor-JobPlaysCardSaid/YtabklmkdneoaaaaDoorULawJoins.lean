/- UnitJoins: the walk. -/
import Derived.Test.YtabklmkdneoaaaaDoorUJoins
import Derived.Test.YtabklmkdneoaaaaDoorULawSplits
import Derived.Outline
namespace Go.Proofs.YtabklmkdneoaaaaDoor
open Go.RowKit

/-- What Split's error is. -/
def EvU (w : World) : Option (PathS × Int) → Value → Prop
  | none, v => v = .nilIface
  | some (q, c), v => ErrV w c q v ∧ c ≠ 0 ∧ q.length ≤ 1000
theorem EvU.below {w w' : World} {er : Option (PathS × Int)} {v : Value} (h : EvU w er v) (hb : Below w.heap.size w w') : EvU w' er v := by
  rcases er with _ | ⟨q, c⟩
  · exact h
  · exact ⟨h.1.below hb, h.2⟩
theorem of_er (er : Option (PathS × Int)) (v : Value) (w : World) (h : EvU w er v) (hg : ErrT w) : Calls Tryd.prog 41 #[v] w fun e w' => e = .returned (.int .i64 (codeU er)) ∧ Below w.heap.size w w' := by
  rcases er with _ | ⟨q, c⟩
  · have h' : v = .nilIface := h
    subst h'
    refine (of_nil w).mono ?_
    rintro e w' ⟨rfl, rfl⟩
    exact ⟨rfl, Below.refl _ _⟩
  · exact of_path c q v w h.1 hg
theorem EvU.form {w : World} {er : Option (PathS × Int)} {v : Value} (h : EvU w er v) : (er = none ∧ v = .nilIface) ∨ (er ≠ none ∧ ∃ t x, v = .iface t x) := by
  rcases er with _ | ⟨q, c⟩
  · exact .inl ⟨rfl, h⟩
  · exact .inr ⟨by simp, h.1.form⟩
theorem RdUnits.take {w : World} {A : Option Addr} {n c k : Nat} {ps : UV} (h : RdUnits w (.slice A n c) ps) (hk : k ≤ ps.length) : RdUnits w (.slice A k c) (ps.take k) := by
  obtain ⟨⟨A', c', e, h2⟩, h3⟩ := h
  injection e with e1 e2 e3
  subst e1 e3
  refine ⟨⟨A, c, by rw [List.length_take, Nat.min_eq_left hk], fun h0 => ?_⟩, fun p hp => h3 p (List.mem_of_mem_take hp)⟩
  obtain ⟨b, off, rfl, h4, h5⟩ := h2 (by rintro rfl; simp at h0)
  refine ⟨b, off, rfl, h4, fun i p hp => h5 i p ?_⟩
  rw [List.getElem?_take] at hp
  split at hp
  · exact hp
  · cases hp
theorem own_slice_cap {w : World} {B size n : Nat} {t : TypeId} {v : Value} {xs : List Value} (h : w.ownsRow B t size v n xs) : ∃ A c, v = .slice A n c ∧ n ≤ c := by
  rcases h.2 with ⟨rfl, rfl⟩ | ⟨g, cap, cur, rfl, _, _, hle, _⟩
  · exact ⟨none, 0, rfl, Nat.le_refl _⟩
  · exact ⟨_, _, rfl, hle⟩
theorem splitU_in (bs : List UInt8) : ∀ (k n : Nat), ∀ u ∈ (splitU bs k n).1, u.at_ ≤ bs.length ∧ u.end_ ≤ bs.length := by
  intro k
  induction k with
  | zero => intro n u hu; simp [splitU] at hu
  | succ k ih =>
    intro n u hu
    by_cases hn : n < bs.length
    · cases hN : nextU bs n with
      | no q c => rw [splitU_no hn hN] at hu; simp at hu
      | ok v =>
        rw [splitU_ok hn hN] at hu
        have h1 := (nextU_front (b := []) hn hN).2
        have h2 := nextU_grows hN
        rcases List.mem_cons.1 hu with rfl | hu
        · exact ⟨by omega, h1⟩
        · exact ih _ u hu
    · rw [splitU_done (by omega)] at hu; simp at hu
theorem codeU_move (L : Nat) (er : Option (PathS × Int)) : codeU (moveE L er) = codeU er := by
  rcases er with _ | ⟨q, c⟩ <;> rfl
theorem moveE_none (L : Nat) (er : Option (PathS × Int)) : moveE L er = none ↔ er = none := by
  rcases er with _ | ⟨q, c⟩ <;> simp [moveE]
set_option maxRecDepth 100000 in
set_option maxHeartbeats 4000000 in
theorem ujoins_big (A B : Option Addr) (n m c d : Nat) (w : World) (hg : ErrT w) (hs : 20000 < n ∨ 20000 < m) :
    Calls Tryd.prog 9 #[.slice A n c, .slice B m d] w fun e w' => e = .returned (.bool true) ∧ Below w.heap.size w w' := by
  have HG := hid (And.intro hg hg.lt)
  have hcase : decide ((20000 : Int) < (n : Int)) = true ∨ (decide ((20000 : Int) < (n : Int)) = false ∧ decide ((20000 : Int) < (m : Int)) = true) := by
    simp only [decide_eq_true_eq, decide_eq_false_iff_not]
    omega
  clear hg hs
  rcases hcase with h1 | ⟨h1, h2⟩
  all_goals
    go_enter Tryd.func9, Tryd.ntmps9
    go_wp2_with fail
    refine (ufirst_any _ HG.out.1).mono ?_
    rintro e w1 ⟨rfl, h1⟩
    have B1 := hid h1
    clear h1
    go_wp2_with fail
    refine (ufirst_any _ (HG.out.1.below B1.out HG.out.2)).mono ?_
    rintro e w2 ⟨rfl, h1⟩
    have B2 := hid h1
    clear h1
    go_wp2_with fail
    go_ret
    exact ⟨rfl, B1.out.trans (B2.out.mono B1.out.size)⟩
/-- What UnitJoins holds behind its splits. -/
structure JN (w : World) (x y : Value) (fs bs : List UInt8) (ps qs : UV) (lv mv : Value) (ev : Value) (er : Option (PathS × Int)) (W : World) : Prop where
  et : ErrT W
  bel : Below w.heap.size w W
  x : Byt W x fs
  y : Byt W y bs
  l : RdUnits W lv ps
  m : RdUnits W mv qs
  e : EvU W er ev
theorem JN.step {w W W' : World} {x y : Value} {fs bs : List UInt8} {ps qs : UV} {lv mv ev : Value} {er : Option (PathS × Int)} (h : JN w x y fs bs ps qs lv mv ev er W) (hb : Below W.heap.size W W') : JN w x y fs bs ps qs lv mv ev er W' :=
  ⟨h.et.below hb h.et.lt, h.bel.trans (hb.mono h.bel.size), h.x.below hb, h.y.below hb, h.l.below hb, h.m.below hb, h.e.below hb⟩
theorem JN.drew {w W : World} {x y : Value} {fs bs : List UInt8} {ps qs : UV} {lv mv ev : Value} {er : Option (PathS × Int)} (h : JN w x y fs bs ps qs lv mv ev er W) : JN w x y fs bs ps qs lv mv ev er W.drew := h.step (Below.refl _ W).drew
set_option maxRecDepth 100000 in
set_option maxHeartbeats 4000000 in
theorem ujoins_walk (x y : Value) (fs bs : List UInt8) (w : World) (hx : Byt w x fs) (_ : fs.length ≤ maxLen) (hy : Byt w y bs) (_ : bs.length ≤ maxLen) (hg : ErrT w) :
    Calls Tryd.prog 9 #[x, y] w fun e w' => e = .returned (.bool true) ∧ Below w.heap.size w w' := by
  obtain ⟨A, c, rfl, hc⟩ := hx.form
  obtain ⟨B, d, rfl, hd⟩ := hy.form
  by_cases hbig : 20000 < fs.length ∨ 20000 < bs.length
  · exact ujoins_big A B fs.length bs.length c d w hg hbig
  · have hb1 : decide ((20000 : Int) < (fs.length : Int)) = false := by simp; omega
    have hb2 : decide ((20000 : Int) < (bs.length : Int)) = false := by simp; omega
    have HL := hid (show fs.length ≤ 20000 ∧ bs.length ≤ 20000 by omega)
    obtain ⟨i0, hi0, hz0, hz1, hz2⟩ := info_parts info_u8
    have IP := hid (And.intro hi0 (And.intro hz0 (And.intro hz1 hz2)))
    have HG := hid (And.intro hg hg.lt)
    have X := hid (And.intro hx hy)
    clear hbig hg hx hc hy hd hi0 hz0 hz1 hz2
    go_enter Tryd.func9, Tryd.ntmps9
    go_wp2_with fail
    refine (ufirst_any _ HG.out.1).mono ?_
    rintro e w1 ⟨rfl, h1⟩
    have B1 := hid h1
    clear h1
    go_wp2_with fail
    refine (usplit_any _ fs _ (by exact X.out.1.below B1.out) (by have := HL.out; omega)).mono ?_
    rintro e w2 ⟨lv, ps, ev, us, er, rfl, hU, hps, hO, h2, hev⟩
    obtain ⟨A2, c2, rfl⟩ := own_slice hO.row
    have B2 := hid (B1.out.trans (h2.mono B1.out.size))
    have L2 := hid (And.intro hU (And.intro hps hO.reads))
    have E2 := hid (show EvU w2 er ev by rcases er with _ | ⟨q, c⟩ <;> exact hev)
    clear hU hps hO h2 hev
    go_wp2_with fail
    refine (usplit_any _ bs _ (by exact X.out.2.below B2.out) (by have := HL.out; omega)).mono ?_
    rintro e w3 ⟨mv, qs, fv, vs, fr, rfl, hU, hqs, hO, h3, hev⟩
    obtain ⟨A3, c3, rfl⟩ := own_slice hO.row
    have B3 := hid (B2.out.trans (h3.mono B2.out.size))
    have M3 := hid (And.intro hU hqs)
    have F3 := hid (show EvU w3 fr fv by rcases fr with _ | ⟨q, c⟩ <;> exact hev)
    have J3 := hid (JN.mk (HG.out.1.below B3.out HG.out.2) B3.out (X.out.1.below B3.out) (X.out.2.below B3.out) (L2.out.2.2.below h3) hO.reads F3.out)
    clear hU hqs hO h3 hev
    rcases E2.out.form with ⟨rfl, rfl⟩ | ⟨_, t, z, rfl⟩
    · go_wp2_with fail
      refine (copy_bytes _ fs _ (J3.out.x.from_) (by have := HL.out; omega)).mono ?_
      rintro e w4 ⟨g, cap, rfl, ho, h4⟩
      have J4 := hid (J3.out.step h4)
      have G4 := hid (And.intro ho h4)
      clear ho h4
      go_wp2_with (at_builtin; refine wpList_append_form _ rfl (.tmp 39) (.tmp 40) _ rfl w3.heap.size 5 i0 (.int .u8 0) 1 1 Tryd.underlying23 IP.out.1 IP.out.2.1 IP.out.2.2.1 IP.out.2.2.2 rfl (by omega) (.slice (some ⟨g, 0, none⟩) fs.length cap) fs.length (fs.map byteV) rfl (by exact G4.out.1) (.slice B bs.length d) bs.length (bs.map byteV) rfl (by exact J4.out.y.from_) (one_bytes bs) (.inl (by simp [Value.ownBlock])) (by have := HL.out; unfold maxLen; omega) (by have := HL.out; omega) (by exact G4.out.2.size) (fs.length + bs.length) ((fs ++ bs).map byteV) rfl (by simp) ?_; intro g5 cap5 w5 hown hgrow hat hlt5)
      have h5 : Below w3.heap.size w3 w5 := G4.out.2.grown hgrow G4.out.2.size (fun k hk => by
        simp [Value.ownBlock] at hk
        subst hk
        exact (G4.out.1.lt _ rfl).1)
      have J5 := hid (J3.out.step h5)
      have A5 := hid (Byt.of_own (bs := fs ++ bs) hown (by simp))
      clear hown hgrow hat hlt5 h5
      go_wp2_with fail
      refine (usplit_any _ (fs ++ bs) _ (by exact A5.out) (by have := HL.out; simp; omega)).mono ?_
      rintro e w6 ⟨nv, rs, gv, ts, gr, rfl, hU, hrs, hO, h6, hev⟩
      obtain ⟨A6, c6, rfl, hc6⟩ := own_slice_cap hO.row
      have J6 := hid (J5.out.step h6)
      have N6 := hid hO.reads
      have E6 := hid (show EvU w6 gr gv by rcases gr with _ | ⟨q, c⟩ <;> exact hev)
      have hjoin := unitsOf_joins (b := bs) L2.out.1
      rw [M3.out.1, hU] at hjoin
      injection hjoin with hts hgr
      subst hgr
      have hrs2 : rs.map Prod.fst = us ++ vs.map (moveU fs.length) := hrs.trans hts
      have hlen1 : us.length = ps.length := by have := congrArg List.length L2.out.2.1; simpa using this.symm
      have hlen2 : vs.length = qs.length := by have := congrArg List.length M3.out.2; simpa using this.symm
      have hlen3 : rs.length = ps.length + qs.length := by have := congrArg List.length hrs2; simpa [hlen1, hlen2] using this
      have hpl : ps.length + qs.length ≤ 1000000 := by
        have h5 := splitU_len fs fs.length 0
        have h6 : (splitU fs fs.length 0).1 = us := congrArg Prod.fst L2.out.1
        have h7 := splitU_len bs bs.length 0
        have h8 : (splitU bs bs.length 0).1 = vs := congrArg Prod.fst M3.out.1
        rw [h6] at h5
        rw [h8] at h7
        have := HL.out
        omega
      have R6 := hid (And.intro hrs2 (And.intro hlen1 (And.intro hlen2 hpl)))
      have F6 := hid (J6.out.e)
      clear hU hrs hO h6 hev hts hrs2 hlen1 hlen2
      rw [hlen3] at N6 hc6 ⊢
      have hc7 : ¬ (c6 < ps.length) := by omega
      have hc8 : ¬ ((c6 : Int) < (ps.length : Int)) := by omega
      have nq : (((ps.length + qs.length : Nat) : Int) != (ps.length : Int) + (qs.length : Int)) = false := by simp
      have hwl : IntKind.i64.wrap ((ps.length : Int) + (qs.length : Int)) = (ps.length : Int) + (qs.length : Int) := IntWalk.i64_in _ (by omega)
      clear hpl
      have OF : Hid (∀ v, (v = gv ∨ v = fv) → ∀ W, Below w6.heap.size w6 W → Calls Tryd.prog 41 #[v] W fun e w' => e = .returned (.int .i64 (codeU fr)) ∧ Below W.heap.size W w') := by
        rintro v (rfl | rfl) W hb
        · have h := of_er _ _ W (E6.out.below hb) (J6.out.et.below hb J6.out.et.lt)
          rw [codeU_move] at h
          exact h
        · exact of_er _ _ W (F6.out.below hb) (J6.out.et.below hb J6.out.et.lt)
      have RD : Hid (∀ W, Below w6.heap.size w6 W → Calls Tryd.prog 38 #[.slice A6 ps.length c6, .slice A2 ps.length c2] W fun e w' => e = .returned (.bool true) ∧ Below W.heap.size W w') := by
        intro W hb
        have h1 := (N6.out.below hb).take (k := ps.length) (by have := congrArg List.length R6.out.1; simp at this; omega)
        refine units_same _ _ (rs.take ps.length) ps W h1 (J6.out.l.below hb) ?_ ?_
        · rw [List.map_take, R6.out.1, ← R6.out.2.1, List.take_left, L2.out.2.1]
        · rw [List.length_take]; have := R6.out.2.2.2; omega
      have hsl : ∀ W2 : World, (Instr.sliceAt 54 (.slice A6 (ps.length + qs.length) c6) none (some (.int .i64 (ps.length : Int))) none).run Tryd.prog W2 = .ok (.slice A6 ps.length c6) W2 := by
        intro W2
        go_simp
      have KB : Hid (Below w6.heap.size w6 w6) := Below.refl _ _
      have hfo : (fv = .nilIface ∧ gv = .nilIface) ∨ ((∃ t z, fv = .iface t z) ∧ (∃ t z, gv = .iface t z)) := by
        rcases F6.out.form with ⟨hfr, hfv⟩ | ⟨hfr, hfv⟩
        · refine .inl ⟨hfv, ?_⟩
          have := E6.out
          rw [hfr] at this
          exact this
        · refine .inr ⟨hfv, ?_⟩
          rcases E6.out.form with ⟨h1, _⟩ | ⟨_, h2⟩
          · exact absurd ((moveE_none _ _).1 h1) hfr
          · exact h2
      rcases hfo with ⟨rfl, rfl⟩ | ⟨⟨t1, z1, rfl⟩, ⟨t2, z2, rfl⟩⟩
      all_goals
        go_wp2_with fail
        go_region_held3 (fun _ => True)
          (exact trivial)
          (first
            | (go_at_call 41
               refine (OF.out _ (by first | exact .inl rfl | exact .inr rfl) _ (by first | exact KB.out | exact KB.out.drew)).mono ?_
               rintro e w7 ⟨rfl, hb7⟩
               have KB := hid (Below.trans (by first | exact KB.out | exact KB.out.drew) (hb7.mono (by first | exact KB.out.size | exact KB.out.drew.size)))
               clear hb7)
            | (go_at_call 38
               refine (RD.out _ (by first | exact KB.out | exact KB.out.drew)).mono ?_
               rintro e w8 ⟨rfl, hb7⟩
               have KB := hid (Below.trans (by first | exact KB.out | exact KB.out.drew) (hb7.mono (by first | exact KB.out.size | exact KB.out.drew.size)))
               clear hb7))
        all_goals
          go_wp2_with fail
          have KL := hid (show Below w6.heap.size w6 _ by first | exact KB.out | exact KB.out.drew)
          go_loopg [12] qs.length (fun k iv wr => ∃ j : Nat, j + k = qs.length ∧ iv = .int .i64 j ∧ Below w6.heap.size w6 wr)
          case atStart => exact ⟨0, by omega, rfl, KL.out⟩
          case round =>
            obtain ⟨j, hj, rfl, hb⟩ := hrel
            have hpl := R6.out.2.2.2
            by_cases hlt : j < qs.length
            · obtain ⟨⟨u, d1⟩, hp⟩ : ∃ p, qs[j]? = some p := ⟨qs[j], List.getElem?_eq_getElem hlt⟩
              have hvu : vs[j]? = some u := by rw [← M3.out.2, List.getElem?_map, hp]; rfl
              obtain ⟨⟨v, d2⟩, hq⟩ : ∃ p, rs[ps.length + j]? = some p := ⟨rs[ps.length + j]'(by omega), List.getElem?_eq_getElem (by omega)⟩
              have hv : v = moveU fs.length u := by
                have h1 := congrArg (·[ps.length + j]?) R6.out.1
                simp only [List.getElem?_map, hq, Option.map_some] at h1
                have hlu := R6.out.2.1
                rw [List.getElem?_append_right (by omega), R6.out.2.1, Nat.add_sub_cancel_left, List.getElem?_map, hvu] at h1
                exact Option.some.inj h1
              have hbd : u.at_ ≤ bs.length ∧ u.end_ ≤ bs.length := by
                have h8 : (splitU bs bs.length 0).1 = vs := congrArg Prod.fst M3.out.1
                exact splitU_in bs bs.length 0 u (by rw [h8]; exact List.mem_of_getElem? hvu)
              have hbl := HL.out
              obtain ⟨b1, o1, rfl, _, p0, p1, p2, p3, F1⟩ := (J6.out.m.below hb).at_ hp
              obtain ⟨b2, o2, rfl, _, q0, q1, q2, q3, F2⟩ := (N6.out.below hb).at_ hq
              subst hv
              dsimp only [moveU] at p0 p1 p2 p3 q0 q1 q2 q3 F1 F2
              obtain ⟨N, hN⟩ : ∃ N, ps.length + j = N := ⟨_, rfl⟩
              rw [hN] at q0 q1 q2 q3
              have hN0 : N < ps.length + qs.length := by omega
              obtain ⟨A7, c7, rfl, _⟩ := id F1
              obtain ⟨A8, c8, rfl, _⟩ := id F2
              rw [Int.natCast_add] at q2 q3
              have FF := hid (And.intro F1 (And.intro F2 (And.intro hb hj)))
              have hw1 : IntKind.i64.wrap ((u.at_ : Int) + (fs.length : Int)) = (u.at_ : Int) + (fs.length : Int) := IntWalk.i64_in _ (by omega)
              have hw2 : IntKind.i64.wrap ((u.end_ : Int) + (fs.length : Int)) = (u.end_ : Int) + (fs.length : Int) := IntWalk.i64_in _ (by omega)
              have hw3 : IntKind.i64.wrap ((ps.length : Int) + (j : Int)) = (N : Int) := by rw [IntWalk.i64_in _ (by omega)]; omega
              clear hN
              have hx1 : ∀ W2 : World, (Instr.indexAt 54 (.slice (some ⟨b1, o1, none⟩) qs.length c3) (.int .i64 j)).run Tryd.prog W2 = .ok (.pointer (some ⟨b1, o1 + j * 4, none⟩)) W2 := by
                intro W2
                have k0 : (0 : Int) ≤ (j : Int) := by omega
                have k1 : (j : Int) < (qs.length : Int) := by omega
                go_simp
              have hx2 : ∀ W2 : World, (Instr.indexAt 54 (.slice (some ⟨b2, o2, none⟩) (ps.length + qs.length) c6) (.int .i64 N)).run Tryd.prog W2 = .ok (.pointer (some ⟨b2, o2 + N * 4, none⟩)) W2 := by
                intro W2
                have k0 : (0 : Int) ≤ (N : Int) := by omega
                have k1 : (N : Int) < (ps.length : Int) + (qs.length : Int) := by omega
                clear hw3
                go_simp
              have PW : Hid (∀ W2, Below wr.heap.size wr W2 → W2.cell? ⟨b1, o1 + j * 4, none⟩ = some (.int .i64 u.kind) ∧ W2.cell? ⟨b1, o1 + j * 4 + 1, none⟩ = some (.slice A7 u.data.length c7) ∧ W2.cell? ⟨b1, o1 + j * 4 + 2, none⟩ = some (.int .i64 u.at_) ∧ W2.cell? ⟨b1, o1 + j * 4 + 3, none⟩ = some (.int .i64 u.end_)) := fun W2 h => ⟨cell_keep h p0, cell_keep h p1, cell_keep h p2, cell_keep h p3⟩
              have QW : Hid (∀ W2, Below wr.heap.size wr W2 → W2.cell? ⟨b2, o2 + N * 4, none⟩ = some (.int .i64 u.kind) ∧ W2.cell? ⟨b2, o2 + N * 4 + 1, none⟩ = some (.slice A8 u.data.length c8) ∧ W2.cell? ⟨b2, o2 + N * 4 + 2, none⟩ = some (.int .i64 ((u.at_ : Int) + (fs.length : Int))) ∧ W2.cell? ⟨b2, o2 + N * 4 + 3, none⟩ = some (.int .i64 ((u.end_ : Int) + (fs.length : Int)))) := fun W2 h => ⟨cell_keep h q0, cell_keep h q1, cell_keep h q2, cell_keep h q3⟩
              clear F1 F2 hb hp hq hvu hbd hbl
              go_wp2_with fail
              go_region_held3 (fun W => W.cell? ⟨b1, o1 + j * 4, none⟩ = some (.int .i64 u.kind) ∧ W.cell? ⟨b1, o1 + j * 4 + 1, none⟩ = some (.slice A7 u.data.length c7) ∧ W.cell? ⟨b1, o1 + j * 4 + 2, none⟩ = some (.int .i64 u.at_) ∧ W.cell? ⟨b1, o1 + j * 4 + 3, none⟩ = some (.int .i64 u.end_))
                (first
                  | exact ⟨p0, p1, p2, p3⟩
                  | exact PW.out _ (((Below.refl _ _).alloc (Nat.le_refl _) _).drew))
                (fail)
              all_goals
                have hbw : Below wr.heap.size wr (wr.alloc (.cells #[.int .i64 u.kind, .slice A7 u.data.length c7, .int .i64 ((u.at_ : Int) + (fs.length : Int)), .int .i64 ((u.end_ : Int) + (fs.length : Int))] 35)).drew := ((Below.refl _ _).alloc (Nat.le_refl _) _).drew
                have hub : Blk (wr.alloc (.cells #[.int .i64 u.kind, .slice A7 u.data.length c7, .int .i64 ((u.at_ : Int) + (fs.length : Int)), .int .i64 ((u.end_ : Int) + (fs.length : Int))] 35)).drew wr.heap.size 35 #[.int .i64 u.kind, .slice A7 u.data.length c7, .int .i64 ((u.at_ : Int) + (fs.length : Int)), .int .i64 ((u.end_ : Int) + (fs.length : Int))] := (Blk.new _ _ _).drew
                obtain ⟨Q0, Q1, Q2, Q3⟩ := QW.out _ hbw
                have u0 := hub.cell 0
                have u1 := hub.cell 1
                have u2 := hub.cell 2
                have u3 := hub.cell 3
                simp only [List.getElem?_toArray, List.getElem?_cons_zero, List.getElem?_cons_succ] at u0 u1 u2 u3
                have F9 := hid (And.intro hbw (And.intro (from_keep FF.out.1 hbw) (from_keep FF.out.2.1 hbw)))
                clear p0 p1 p2 p3 q0 q1 q2 q3 hx1 hub hbw PW QW
                go_wp2_with fail
                generalize (wr.alloc (.cells #[.int .i64 u.kind, .slice A7 u.data.length c7, .int .i64 ((u.at_ : Int) + (fs.length : Int)), .int .i64 ((u.end_ : Int) + (fs.length : Int))] 35)).drew = w9 at *
                go_region_held3 (fun W => W.cell? ⟨b2, o2 + N * 4, none⟩ = some (.int .i64 u.kind) ∧ W.cell? ⟨b2, o2 + N * 4 + 1, none⟩ = some (.slice A8 u.data.length c8) ∧ W.cell? ⟨b2, o2 + N * 4 + 2, none⟩ = some (.int .i64 ((u.at_ : Int) + (fs.length : Int))) ∧ W.cell? ⟨b2, o2 + N * 4 + 3, none⟩ = some (.int .i64 ((u.end_ : Int) + (fs.length : Int))) ∧ W.cell? ⟨wr.heap.size, 0, none⟩ = some (.int .i64 u.kind) ∧ W.cell? ⟨wr.heap.size, 1, none⟩ = some (.slice A7 u.data.length c7) ∧ W.cell? ⟨wr.heap.size, 2, none⟩ = some (.int .i64 ((u.at_ : Int) + (fs.length : Int))) ∧ W.cell? ⟨wr.heap.size, 3, none⟩ = some (.int .i64 ((u.end_ : Int) + (fs.length : Int))))
                  (first
                    | exact ⟨Q0, Q1, Q2, Q3, u0, u1, u2, u3⟩
                    | exact KW.out)
                  (first
                    | (go_at_call 29
                       refine (unit_same u.kind ((u.at_ : Int) + (fs.length : Int)) ((u.end_ : Int) + (fs.length : Int)) _ _ u.data _ (by first | exact F9.out.2.2 | exact from_keep F9.out.2.2 (Below.refl _ _).drew) (by first | exact F9.out.2.1 | exact from_keep F9.out.2.1 (Below.refl _ _).drew)).mono ?_
                       rintro e w10 ⟨rfl, hb2⟩
                       have hbw : Below w9.heap.size w9 w10 := by first | exact hb2 | exact ⟨hb2.os, hb2.tape, hb2.output, hb2.size, hb2.block⟩
                       have KW := hid (And.intro (cell_keep hbw Q0) (And.intro (cell_keep hbw Q1) (And.intro (cell_keep hbw Q2) (And.intro (cell_keep hbw Q3) (And.intro (cell_keep hbw u0) (And.intro (cell_keep hbw u1) (And.intro (cell_keep hbw u2) (cell_keep hbw u3))))))))
                       have BW := hid (F9.out.1.trans (hbw.mono F9.out.1.size))
                       clear hb2 hbw))
                all_goals
                  clear Q0 Q1 Q2 Q3 u0 u1 u2 u3 hx2
                  go_wp2_with fail
                  have hj := FF.out.2.2.2
                  go_roundg (gk - 1)
                  case measure => omega
                  case rel =>
                    refine ⟨j + 1, by omega, by go_num, ?_⟩
                    have h := FF.out.2.2.1.trans (BW.out.mono FF.out.2.2.1.size)
                    first | exact h | exact h.drew
            · have hge : qs.length ≤ j := by omega
              have hn : decide ((j : Int) < (qs.length : Int)) = false := by simp; omega
              have S8 := hid hb
              clear hb hj
              go_wp2_with fail
              refine (ufirst_any _ (by exact J6.out.et.below S8.out J6.out.et.lt)).mono ?_
              rintro e w9 ⟨rfl, h9⟩
              have S9 := hid (J6.out.bel.trans ((S8.out.trans (h9.mono S8.out.size)).mono J6.out.bel.size))
              clear h9
              go_wp2_with fail
              go_ret
              exact ⟨rfl, S9.out⟩
    · go_wp2_with fail
      refine (ufirst_any _ J3.out.et).mono ?_
      rintro e w4 ⟨rfl, h1⟩
      have B4 := hid h1
      clear h1
      go_wp2_with fail
      go_ret
      exact ⟨rfl, B3.out.trans (B4.out.mono B3.out.size)⟩
end Go.Proofs.YtabklmkdneoaaaaDoor
