/- RacBack: the walk. -/
import Derived.Test.YtgdhbmpdicdbpaaDoorLawRBack
import Derived.Test.YtgdhbmpdicdbpaaDoorRowObj
namespace Go.Proofs.YtgdhbmpdicdbpaaDoor
open Go.RowKit

theorem info_op : (Tryd.prog.info? 29).map (fun i => (i.zero, i.size, i.bytes)) = some (some (.agg #[.int .i64 0, .bool false]), 2, 16) := by kernel_rfl
theorem own_form2 {w : World} {base n c : Nat} {t : TypeId} {A : Option Addr} {xs : List Value} (h : w.ownsRow base t 2 (.slice A n c) n xs) (hn : 0 < n) : ∃ g, A = some ⟨g, 0, none⟩ := by
  rcases h.2 with ⟨_, h0⟩ | ⟨g, cap, cur, hv, _⟩
  · omega
  · injection hv with hv
    exact ⟨g, hv⟩
set_option maxRecDepth 100000 in
set_option maxHeartbeats 4000000 in
theorem rback_walk (y : Value) (l : List Op12) (w : World) (hy : OpsAt12 w y l) (_ : l.length ≤ maxLen) (hg : ErrT w) :
    Calls Tryd.prog 6 #[y] w fun e w' => e = .returned (.bool true) ∧ Below w.heap.size w w' := by
  obtain ⟨i0, hi0, hz0, hz1, hz2⟩ := info_parts info_op
  have IP := hid (And.intro hi0 (And.intro hz0 (And.intro hz1 hz2)))
  clear hi0 hz0 hz1 hz2
  obtain ⟨A2, c2, rfl, hy2⟩ := hy
  have Y := hid hy2
  have HG := hid (And.intro hg hg.lt)
  clear hy2 hg
  go_enter Tryd.func6, Tryd.ntmps6
  go_wp2_with fail
  refine (first_any _ HG.out.1).mono ?_
  rintro e w1 ⟨rfl, h1⟩
  have B1 := hid h1
  clear h1
  go_wp2_with fail
  refine (new_enc_o _).mono ?_
  rintro e w2 ⟨eb, F, rfl, a1, f1, b1⟩
  have T : Hid (RowAt 29 2 (.slice none 0 0) 0 [] w.heap.size w (EncO eb) F Enc.new w2) := by
    have hs := B1.out.size
    exact ⟨a1, World.ownsRow_nil _ _ _ _, fun k hk => by simp [Value.ownBlock] at hk, fun k hk => by have := f1 k hk; omega, B1.out.trans (b1.mono hs), by have := b1.size; omega⟩
  clear a1 f1 b1
  go_wp2_with fail
  go_loopg [4, 5] l.length (fun k dv i wr => ∃ (j : Nat) (A : Option Addr) (c : Nat) (F : Nat → Prop), j + k = l.length ∧ j ≤ 4000 ∧ i = .int .i64 j ∧ dv = .slice A (opsOk (l.take j)).length c ∧ RowAt 29 2 (.slice A (opsOk (l.take j)).length c) (opsOk (l.take j)).length (opCells (opsOk (l.take j))) w.heap.size w (EncO eb) F (encs Enc.new (l.take j)) wr)
  case atStart => exact ⟨0, none, 0, F, by omega, by omega, rfl, by simp [opsOk], by simpa [opsOk, opCells, encs] using T.out⟩
  case round =>
    clear T B1
    obtain ⟨j, A, c, F, hj, hj2, rfl, rfl, hT⟩ := hrel
    have T := hid (And.intro hT hj)
    clear hT hj
    have hlen := opsOk_len l j
    by_cases hlt : j < l.length ∧ j < 4000
    · have j1 : decide ((j : Int) < (l.length : Int)) = true := by simp; omega
      have j2 : decide ((j : Int) < 4000) = true := by simp; omega
      have JJ := hid hlt
      clear hlt
      obtain ⟨o, hoj⟩ : ∃ o, l[j]? = some o := ⟨l[j]'JJ.out.1, List.getElem?_eq_getElem JJ.out.1⟩
      obtain ⟨lb, off, rfl, hlb, hcs⟩ := Y.out (by intro e; rw [e] at hoj; simp at hoj)
      obtain ⟨c0, c1⟩ := ops12_cells T.out.1.bel hlb (hcs j o hoj)
      have C0 := hid (And.intro (hcs j o hoj) hlb)
      have hS := hid (opsOk_succ l j o hoj)
      have hE := hid (encs_take l j o hoj)
      clear hcs hoj
      have k0 : (0 : Int) ≤ (j : Int) := by omega
      have k1 : (j : Int) < (l.length : Int) := by have := JJ.out.1; omega
      obtain ⟨op, ob⟩ := o
      simp only at c0 c1
      have hok := hid ((encs_ok (n := 0) (l.take j) enc_new_ok).up (show 0 + 3 * (l.take j).length ≤ 1000000000 by simp; omega))
      generalize hn : (opsOk (l.take j)).length = n at *
      have HN := hid hn
      clear hn
      go_wp2_with fail
      refine (codes_any eb op ob _ F _ (by exact T.out.1.at_) hok.out).mono ?_
      rintro y w5 ⟨rfl, hm⟩
      obtain ⟨F2, hT2⟩ := T.out.1.moved hm
      obtain ⟨d0, d1⟩ := ops12_cells (o := ⟨op, ob⟩) hT2.bel C0.out.2 C0.out.1
      have T2 := hid hT2
      clear hm hT2 c0 c1
      simp only at d0 d1
      cases hk : okP op with
      | false =>
        have KK := hid (And.intro T.out.2 (And.intro JJ.out hk))
        clear hk
        go_wp2_with fail
        have kk := KK.out
        go_roundg (gk - 1)
        case measure => omega
        case rel =>
          have e1 := hS.out
          simp only [kk.2.2, Bool.false_eq_true, if_false, List.append_nil] at e1
          refine ⟨j + 1, A, c, F2, by omega, by omega, by go_num, ?_, ?_⟩
          · rw [e1, HN.out]
          · rw [e1, HN.out, hE.out]
            exact T2.out
      | true =>
        have KK := hid (And.intro T.out.2 (And.intro JJ.out hk))
        clear hk
        have T3 := hid (T2.out.read (enc_obj eb) ((Only.refl _ w5).alloc (.cells #[.int .i64 op, .bool ob] 29)))
        have hb5 := hid (Blk.new w5 29 #[.int .i64 op, .bool ob])
        have e1 := hS.out
        simp only [KK.out.2.2, if_true] at e1
        have e2 : n + 1 = (opsOk (l.take (j + 1))).length := by rw [e1, List.length_append, HN.out]; rfl
        have e3 : opCells (opsOk (l.take j)) ++ [.int .i64 op, .bool ob] = opCells (opsOk (l.take (j + 1))) := by rw [e1, opCells_append]; rfl
        have E2 := hid (And.intro e2 e3)
        clear e1 e2 e3
        go_wp2_with (at_builtin; refine wpList_append_form _ rfl _ _ _ rfl w.heap.size 29 i0 (.agg #[.int .i64 0, .bool false]) 2 16 Tryd.underlying22 IP.out.1 IP.out.2.1 IP.out.2.2.1 IP.out.2.2.2 rfl (by omega) (.slice A n c) n (opCells (opsOk (l.take j))) rfl T3.out.own (.slice (some ⟨w5.heap.size, 0, none⟩) 1 1) 1 [.int .i64 op, .bool ob] rfl (from_blk_n (m := 1) (size := 2) hb5.out rfl) (by simp [Value.oneCell']) (.inr (by omega)) (by unfold maxLen; omega) (by omega) T3.out.big (n + 1) (opCells (opsOk (l.take (j + 1)))) rfl E2.out.2 ?_; intro g cap w6 hown hgrow hat hlt)
        have hT4 := T3.out.grown (enc_obj eb) hgrow hown (fun k hk => by
          simp only [Value.ownBlock, Option.some.injEq] at hk
          subst hk
          exact hat)
        have T4 := hid hT4
        clear hgrow hown hat hlt hT4 T2 T T3 hb5 d0 d1
        go_wp2_with fail
        have kk := KK.out
        go_roundg (gk - 1)
        case measure => omega
        case rel =>
          refine ⟨j + 1, some ⟨g, 0, none⟩, cap, F2, by omega, by omega, by go_num, ?_, ?_⟩
          · rw [← E2.out.1]
          · rw [← E2.out.1, hE.out]
            exact T4.out
    · have hex : (l.length ≤ j ∨ (j < l.length ∧ 4000 ≤ j)) := by omega
      have hall : ∀ (i : Nat) (o : Op12), (opsOk (l.take j))[i]? = some o → okP o.p = true := fun i o h => opsOk_all h
      have ef := encs_opsOk (l.take j) Enc.new
      have hok0 := encs_ok (n := 0) (opsOk (l.take j)) enc_new_ok
      rw [← ef] at T
      clear ef
      generalize hD : opsOk (l.take j) = D at *
      clear hD
      have DA := hid hall
      have FO := hid (hok0.up (show 0 + 3 * D.length ≤ 1000000000 by omega))
      have hfl := hok0.len
      clear hall hok0
      generalize hf : encs Enc.new D = f at *
      have HF := hid hf
      clear hf
      have hbl := bytes_le f
      have hbl2 : f.bytes.length ≤ 1000000 := by omega
      rcases hex with hj1 | ⟨hj1, hj3⟩
      all_goals
        first
          | have q1 : decide ((j : Int) < (l.length : Int)) = false := by simp; omega
          | have q1 : decide ((j : Int) < (l.length : Int)) = true := by simp; omega
        have q2 : 4000 ≤ j → decide ((j : Int) < 4000) = false := by intro h; simp; omega
        first
          | have q3 := q2 hj3
          | skip
        clear q2 hlt
        go_wp2_with fail
        refine (enc_end_o eb f F _ (by exact T.out.1.at_) FO.out).mono ?_
        rintro y w10 ⟨g1, p1, rfl, o1, b1⟩
        have T2 := hid (T.out.1.below (enc_obj eb) b1)
        have O1 := hid (From.of_own o1)
        clear o1 b1
        go_wp2_with fail
        refine (new_dec_o _ f.bytes _ (by exact O1.out) (by omega)).mono ?_
        rintro y w11 ⟨db, G, rfl, a4, f4, b4⟩
        have T3 := hid (And.intro a4 (And.intro f4 b4))
        clear a4 f4 b4
        go_wp2_with fail
        go_loopg [8] D.length (fun k i wr2 => ∃ (m : Nat) (d : Dec) (G : Nat → Prop), m + k = D.length ∧ i = .int .i64 m ∧ DecO db wr2 G d ∧ (∀ k, G k → w10.heap.size ≤ k) ∧ Below w10.heap.size w10 wr2 ∧ RStep D m d)
        case atStart => exact ⟨0, _, G, by omega, rfl, T3.out.1, T3.out.2.1, T3.out.2.2, by have := RStep.new D; rw [HF.out] at this; exact this⟩
        case round =>
          clear T3 T O1 Y
          obtain ⟨m, d, G, hm, rfl, hd, hG, hb, hst⟩ := hrel
          by_cases hlt : m < D.length
          · obtain ⟨o, ho⟩ : ∃ o, D[m]? = some o := ⟨D[m]'hlt, List.getElem?_eq_getElem hlt⟩
            have hp := DA.out m o ho
            obtain ⟨hbit, hnx⟩ := hst.next ho hp
            obtain ⟨g, rfl⟩ := own_form2 T2.out.own (by omega)
            obtain ⟨c0, c1⟩ := opCells_at D m o ho
            have hgl := (T2.out.own.lt g rfl).2
            have c0 := (hb.cell (p := ⟨g, m * 2, none⟩) hgl).trans ((T2.out.own.cellAt (m * 2) (by omega)).trans c0)
            have c1 := (T2.out.own.cellAt (m * 2 + 1) (by omega)).trans c1
            have C1 := hid (And.intro c1 hgl)
            have k0 : (0 : Int) ≤ (m : Int) := by omega
            have k1 : (m : Int) < (D.length : Int) := by omega
            obtain ⟨op, ob⟩ := o
            simp only at c0 c1 hp hbit hnx
            have hnb : (ob != ob) = false := by simp
            have hp' := of_decide_eq_true hp
            have S := hid (And.intro hd (And.intro hG (And.intro hb (And.intro (hst.ok.up (show 4 + 3 * m ≤ 1000000000 by omega)) (And.intro hnx (And.intro hm hlt))))))
            have hsz := hb.size
            clear hd hG hb hst ho hp c1
            by_cases h0 : op = 0
            · subst h0
              have e1 : d.op 0 = (d.bit (d.r / 2), d.narrow (d.r / 2)) := by unfold Dec.op; rw [if_pos rfl]
              rw [e1] at hbit S
              simp only at hbit
              have HB := hid hbit
              clear hbit e1 hnx
              go_wp2_with fail
              refine (dec_flat_o db d G _ (by exact S.out.1) S.out.2.2.2.1).mono ?_
              rintro y w6 ⟨rfl, hm6⟩
              obtain ⟨G2, a2, o2, f2⟩ := hm6
              have hb2 : Below w10.heap.size w10 w6 := S.out.2.2.1.trans (below_only12 o2 S.out.2.2.1.size (fun k hk hf => by have := S.out.2.1 k hf; omega))
              have d1 := (hb2.cell (p := ⟨g, m * 2 + 1, none⟩) C1.out.2).trans C1.out.1
              have S2 := hid (And.intro a2 (And.intro (fun k hk => by
                rcases f2 k hk with h | h
                · exact S.out.2.1 k h
                · omega : ∀ k, G2 k → w10.heap.size ≤ k) hb2))
              clear a2 o2 f2 hb2 c0
              rw [HB.out]
              go_wp2_with fail
              have kk := S.out.2.2.2.2.2
              go_roundg (gk - 1)
              case measure => omega
              case rel => exact ⟨m + 1, _, G2, by omega, by go_num, S2.out.1, S2.out.2.1, S2.out.2.2, S.out.2.2.2.2.1⟩
            · have hz0 : (op == 0) = false := by simpa using h0
              have e1 : d.op op = (d.bit (d.r / 2048 * op.toNat), d.narrow (d.r / 2048 * op.toNat)) := by unfold Dec.op; rw [if_neg h0, if_pos (by omega)]
              rw [e1] at hbit S
              simp only at hbit
              obtain ⟨q, rfl⟩ := Int.eq_ofNat_of_zero_le (show 0 ≤ op by omega)
              simp only [Int.toNat_natCast] at hbit S
              have HB := hid hbit
              have hm1 := hid (show 1 ≤ q ∧ q ≤ 2047 by omega)
              clear hbit e1 hnx h0 hp'
              go_wp2_with fail
              refine (dec_code_o db q d G _ (by exact S.out.1) S.out.2.2.2.1 hm1.out.1 hm1.out.2).mono ?_
              rintro y w6 ⟨rfl, hm6⟩
              obtain ⟨G2, a2, o2, f2⟩ := hm6
              have hb2 : Below w10.heap.size w10 w6 := S.out.2.2.1.trans (below_only12 o2 S.out.2.2.1.size (fun k hk hf => by have := S.out.2.1 k hf; omega))
              have d1 := (hb2.cell (p := ⟨g, m * 2 + 1, none⟩) C1.out.2).trans C1.out.1
              have S2 := hid (And.intro a2 (And.intro (fun k hk => by
                rcases f2 k hk with h | h
                · exact S.out.2.1 k h
                · omega : ∀ k, G2 k → w10.heap.size ≤ k) hb2))
              clear a2 o2 f2 hb2 c0
              rw [HB.out]
              go_wp2_with fail
              have kk := S.out.2.2.2.2.2
              go_roundg (gk - 1)
              case measure => omega
              case rel => exact ⟨m + 1, _, G2, by omega, by go_num, S2.out.1, S2.out.2.1, S2.out.2.2, S.out.2.2.2.2.1⟩
          · have hmD : m = D.length := by omega
            have hge : D.length ≤ m := by omega
            have hov := hst.tr.bs
            have hov2 : ((d.at_ - d.bs.length : Nat) : Int) = (f.out.length : Int) + 4 - (f.bytes.length : Int) := by
              rw [hmD] at hst
              have := hst.over
              rw [HF.out] at this
              omega
            have hat := hst.ok.at_
            have hle : decide ((f.bytes.length : Int) ≤ (f.out.length : Int) + 4) = true := decide_eq_true (by omega)
            have S := hid (And.intro hd (And.intro hG (And.intro hb (And.intro (show d.at_ ≤ 1000000000 by omega) hov2))))
            clear hd hG hb hst hov hov2 hat hmD hm hlt
            go_wp2_with fail
            refine (first_any _ (HG.out.1.below (T2.out.bel.trans (S.out.2.2.1.mono T2.out.big)) HG.out.2)).mono ?_
            rintro y w12 ⟨rfl, h12⟩
            have hd2 := (dec_obj db).keep _ w12 _ (fun _ => False) _ S.out.1 ⟨h12.os, h12.tape, h12.output, h12.size, fun k hk _ => h12.block k hk⟩ (fun _ _ h => h)
            have hbb := S.out.2.2.1.trans (h12.mono S.out.2.2.1.size)
            have he2 := T2.out.below (enc_obj eb) hbb
            have S2 := hid (And.intro hd2 he2)
            clear h12 hd2 hbb he2
            go_wp2_with fail
            refine (dec_over_o db d G _ (by exact S2.out.1) S.out.2.2.2.1).mono ?_
            rintro y w13 ⟨rfl, m8, rfl⟩
            rw [S.out.2.2.2.2]
            have T5 := hid (S2.out.2.read (enc_obj eb) (only_drewO _ m8))
            go_wp2_with fail
            refine (enc_len eb f F _ (by exact T5.out.at_) FO.out).mono ?_
            rintro y w14 ⟨rfl, m9, rfl⟩
            have T6 := hid (T5.out.read (enc_obj eb) (only_drewO _ m9))
            go_wp2_with fail
            refine (enc_len eb f F _ (by first | exact T6.out.at_ | exact (S2.out.2.read (enc_obj eb) (only_drewO _ _)).at_) FO.out).mono ?_
            rintro y w15 ⟨rfl, m10, rfl⟩
            go_wp2_with fail
            go_ret
            exact ⟨rfl, (S2.out.2.read (enc_obj eb) (only_drewO _ _)).bel⟩
end Go.Proofs.YtgdhbmpdicdbpaaDoor
