/- LogBack: the walk. -/
import Derived.Test.YtabklmkdneoaaaaDoorGCutP
import Derived.Deep.Light
import Derived.BigQuiet
import Derived.Deep.CutBlock
namespace Go.Proofs.YtabklmkdneoaaaaDoor
open Go.RowKit

theorem own_grown {W W' : World} {B B' s s' n n' : Nat} {t t' : TypeId} {v v' : Value} {xs xs' : List Value} (h : W.ownsRow B t s v n xs) (h' : W.ownsRow B' t' s' v' n' xs') (hne : t ≠ t') (hg : W.grownBy W' v.ownBlock) : W'.ownsRow B' t' s' v' n' xs' := by
  have ho : Only (fun k => v.ownBlock = some k) W W' := ⟨hg.os, hg.tape, hg.output, hg.size, fun k hk hn => hg.block k hk (fun e => hn e.symm)⟩
  exact own_keep2 h' ho (fun k hk e => own_apart h h' hne e hk)
theorem blk_from1 {w : World} {g : Nat} {t : TypeId} {v : Value} (h : Blk w g t #[v]) (c : Nat) : From w 1 (.slice (some ⟨g, 0, none⟩) 1 c) 1 [v] := by
  refine ⟨_, _, rfl, by simp, fun _ => ⟨_, rfl, fun j u hu => ?_⟩⟩
  rw [addr_add, Nat.zero_add, h.cell]
  simpa using hu
theorem info_int : (Tryd.prog.info? 3).map (fun i => (i.zero, i.size, i.bytes)) = some (some (.int .i64 0), 1, 8) := by kernel_rfl
theorem turn_place (a : Int) (L : Nat) (hL : 1 ≤ L) (ha : (Lit.int .i64 a).wf = true) : ∃ (b : Int) (p : Nat), b.tmod (L : Int) = (p : Int) ∧ p < L ∧ ((decide (a < 0) = false ∧ a = b) ∨ (decide (a < 0) = true ∧ wrap64 (-(wrap64 (a + 1))) = b)) := by
  have hb := bounds_i64 ha
  obtain ⟨m, hm⟩ : ∃ m : Nat, (a < 0 ∧ -(a + 1) = m) ∨ (0 ≤ a ∧ a = m) := by
    rcases Int.lt_or_le a 0 with h | h
    · exact ⟨(-(a + 1)).toNat, .inl ⟨h, by omega⟩⟩
    · exact ⟨a.toNat, .inr ⟨h, by omega⟩⟩
  refine ⟨(m : Int), m % L, rfl, Nat.mod_lt _ hL, ?_⟩
  rcases hm with ⟨h, h'⟩ | ⟨h, h'⟩
  · refine .inr ⟨by simpa using h, ?_⟩
    rw [IntWalk.wrap64_in (a + 1) (by omega), IntWalk.wrap64_in _ (by omega)]
    exact h'
  · exact .inl ⟨by simp; omega, h'⟩
theorem gback_big (A : Option Addr) (n c : Nat) (a : Int) (w : World) (hg : ErrT w) (hs : 400 < n) :
    Calls Tryd.prog 17 #[.slice A n c, .int .i64 a] w fun e w' => e = .returned (.bool true) ∧ Below w.heap.size w w' := by
  have HG := hid (And.intro hg hg.lt)
  have h1 : decide ((400 : Int) < (n : Int)) = true := by simp; omega
  clear hg hs
  go_enter Tryd.func17, Tryd.ntmps17
  go_wp2_with fail
  refine (gfirst_any _ HG.out.1).mono ?_
  rintro e w1 ⟨rfl, h1⟩
  have B1 := hid h1
  clear h1
  go_wp2_with fail
  refine (gfirst_any _ (HG.out.1.below B1.out HG.out.2)).mono ?_
  rintro e w2 ⟨rfl, h1⟩
  have B2 := hid h1
  clear h1
  go_wp2_with fail
  go_ret
  exact ⟨rfl, B1.out.trans (B2.out.mono B1.out.size)⟩
/-- A record's cells. -/
def RecC (W : World) (b o : Nat) (r : RecS) : Prop :=
  W.cell? ⟨b, o, none⟩ = some (.int .i64 r.kind) ∧ W.cell? ⟨b, o + 1, none⟩ = some (.int .i64 r.sum) ∧ W.cell? ⟨b, o + 2, none⟩ = some (.int .i64 r.num) ∧ W.cell? ⟨b, o + 3, none⟩ = some (.int .i64 r.len) ∧ W.cell? ⟨b, o + 4, none⟩ = some (.int .i64 r.code)
theorem RecC.keep {W W' : World} {b o : Nat} {r : RecS} (h : RecC W b o r) (hb : Below W.heap.size W W') : RecC W' b o r :=
  ⟨cell_keep hb h.1, cell_keep hb h.2.1, cell_keep hb h.2.2.1, cell_keep hb h.2.2.2.1, cell_keep hb h.2.2.2.2⟩
theorem RdR.recAt {W : World} {A : Option Addr} {n c : Nat} {rs : List RecS} (h : RdR W (.slice A n c) rs) {i : Nat} {r : RecS} (hr : rs[i]? = some r) : ∃ b off, A = some ⟨b, off, none⟩ ∧ b < W.heap.size ∧ RecC W b (off + i * 5) r := by
  obtain ⟨b, off, e, hb, h0, h1, h2, h3, h4⟩ := h.at_ hr
  exact ⟨b, off, e, hb, h0, h1, h2, h3, h4⟩
def endsOf (gs : List RecS) : List Value := (List.range gs.length).map fun i => .int .i64 (((packs (gs.take (i + 1))).length : Nat) : Int)
theorem endsOf_snoc (gs : List RecS) (r : RecS) : endsOf gs ++ [.int .i64 (((packs (gs ++ [r])).length : Nat) : Int)] = endsOf (gs ++ [r]) := by
  unfold endsOf
  rw [List.length_append, List.length_singleton, List.range_succ, List.map_append]
  congr 1
  · apply List.map_congr_left
    intro i hi
    rw [List.take_append_of_le_length (by have := List.mem_range.1 hi; omega)]
  · have e : List.take (gs.length + 1) gs = gs := List.take_of_length_le (by omega)
    simp [List.take_append, e]
theorem endsOf_at (gs : List RecS) (i : Nat) (h : i < gs.length) : (endsOf gs)[i]? = some (.int .i64 (((packs (gs.take (i + 1))).length : Nat) : Int)) := by
  unfold endsOf
  rw [List.getElem?_map, List.getElem?_range h]
  rfl
theorem endsOf_len (gs : List RecS) : (endsOf gs).length = gs.length := by simp [endsOf]
/-- What LogBack holds in its loop. -/
structure KG (w w1 : World) (ov ev dv : Value) (gs : List RecS) (W : World) : Prop where
  et : ErrT W
  bel : Below w.heap.size w W
  b2 : Below w1.heap.size w1 W
  out : W.ownsRow w1.heap.size 5 1 ov (packs gs).length ((packs gs).map byteV)
  ends : W.ownsRow w1.heap.size 3 1 ev gs.length (endsOf gs)
  done : W.ownsRow w1.heap.size 73 5 dv gs.length (recCells gs)
theorem KG.step {w w1 : World} {ov ev dv : Value} {gs : List RecS} {W W' : World} (h : KG w w1 ov ev dv gs W) (hb : Below W.heap.size W W') : KG w w1 ov ev dv gs W' :=
  ⟨h.et.below hb h.et.lt, h.bel.trans (hb.mono h.bel.size), h.b2.trans (hb.mono h.b2.size), own_below h.out hb, own_below h.ends hb, own_below h.done hb⟩
theorem KG.end_cell {w w1 : World} {ov dv : Value} {A : Option Addr} {n c : Nat} {gs : List RecS} {W : World} (h : KG w w1 ov (.slice A n c) dv gs W) {i : Nat} (hi : i < gs.length) :
    ∃ g, A = some ⟨g, 0, none⟩ ∧ W.cell? ⟨g, i, none⟩ = some (.int .i64 (((packs (gs.take (i + 1))).length : Nat) : Int)) := by
  rcases h.ends.2 with ⟨_, h0⟩ | ⟨g, cap, cur, e, _⟩
  · omega
  · injection e with e1 e2 e3
    subst e1
    have he2 := h.ends
    refine ⟨g, rfl, ?_⟩
    rw [e2] at he2
    exact (he2.cellAt i (by omega)).trans (endsOf_at gs i hi)
theorem scan_full (gs : List RecS) (h : ∀ r ∈ gs, mayR r = true) : scanAll (packs gs) = (gs, (packs gs).length) := by
  have := scan_join gs h []
  rw [List.append_nil] at this
  have e : scanAll [] = ([], 0) := rfl
  rw [e] at this
  simpa [packs] using this
theorem packs_lt (gs : List RecS) (j : Nat) : (packs (gs.take j)).length ≤ (packs gs).length := packs_len gs j
set_option maxRecDepth 100000 in
set_option maxHeartbeats 16000000 in
theorem gback_walk (x : Value) (rs : List RecS) (a : Int) (w : World) (hx : RdR w x rs) (_ : rs.length ≤ maxLen) (ha : (Lit.int .i64 a).wf = true) (hg : ErrT w) :
    Calls Tryd.prog 17 #[x, .int .i64 a] w fun e w' => e = .returned (.bool true) ∧ Below w.heap.size w w' := by
  obtain ⟨A, c, rfl, hc⟩ := hx.form
  by_cases hbig : 400 < rs.length
  · exact gback_big A rs.length c a w hg hbig
  · have hb1 : decide ((400 : Int) < (rs.length : Int)) = false := by simp; omega
    obtain ⟨i0, hi0, hz0, hz1, hz2⟩ := info_parts info_u8
    obtain ⟨i1, hi1, hy0, hy1, hy2⟩ := info_parts info_int
    obtain ⟨i2, hi2, hx0, hx1, hx2⟩ := info_parts info_rec
    have IP := hid (And.intro hi0 (And.intro hz0 (And.intro hz1 hz2)))
    have IQ := hid (And.intro hi1 (And.intro hy0 (And.intro hy1 hy2)))
    have IR := hid (And.intro hi2 (And.intro hx0 (And.intro hx1 hx2)))
    have HL := hid (show rs.length ≤ 400 by omega)
    have HG := hid (And.intro hg hg.lt)
    have X := hid hx
    have HAW := hid ha
    clear hbig hg hx hc hi0 hz0 hz1 hz2 hi1 hy0 hy1 hy2 hi2 hx0 hx1 hx2 ha
    go_enter Tryd.func17, Tryd.ntmps17
    go_wp2_with fail
    refine (gfirst_any _ HG.out.1).mono ?_
    rintro e w1 ⟨rfl, h1⟩
    have G1 := hid (show KG w w1 (.slice none 0 0) (.slice none 0 0) (.slice none 0 0) [] w1 from ⟨HG.out.1.below h1 HG.out.2, h1, Below.refl _ _, World.ownsRow_nil w1 w1.heap.size 5 1, World.ownsRow_nil w1 w1.heap.size 3 1, World.ownsRow_nil w1 w1.heap.size 73 5⟩)
    have X1 := hid (X.out.below h1)
    clear h1
    go_wp2_with fail
    go_loopg [5, 6, 7, 8] rs.length (fun k ov ev dv iv wr => ∃ j : Nat, j + k = rs.length ∧ iv = .int .i64 j ∧ KG w w1 ov ev dv (goods (rs.take j)) wr)
    case atStart => exact ⟨0, by omega, rfl, G1.out⟩
    case round =>
      obtain ⟨j, hj, rfl, hR⟩ := hrel
      by_cases hlt : j < rs.length
      · obtain ⟨r, hr⟩ : ∃ r, rs[j]? = some r := ⟨rs[j], List.getElem?_eq_getElem hlt⟩
        have hgl : (goods (rs.take j)).length ≤ j := Nat.le_trans (goods_len _) (by rw [List.length_take]; omega)
        have hpb := packs_bound (goods (rs.take j))
        have hpu := packU_len r
        have HP := hid (fun W => gpack_any r W)
        have HM := hid (fun W => gmay_any r W)
        unfold PackRes at HP
        obtain ⟨b1, o1, rfl, hb1lt, hp1⟩ := X1.out.recAt hr
        have P1 := hid hp1
        obtain ⟨p0, p1, p2, p3, p4⟩ := P1.out.keep hR.b2
        have k0 : (0 : Int) ≤ (j : Int) := by omega
        have k1 : (j : Int) < (rs.length : Int) := by omega
        have hx1 : ∀ W2 : World, (Instr.indexAt 68 (.slice (some ⟨b1, o1, none⟩) rs.length c) (.int .i64 j)).run Tryd.prog W2 = .ok (.pointer (some ⟨b1, o1 + j * 5, none⟩)) W2 := by
          intro W2
          go_simp
        have R0 := hid hR
        have hjl : j ≤ 400 := by have := HL.out; omega
        clear hp1 hb1lt
        cases hm : mayR r
        · have hno : packNo r ≠ 0 := fun e => by have := (packNo_may r).1 e; rw [hm] at this; cases this
          have hgs := goods_no hr hm
          have hcv : codeV (packNo r) = .iface 29 (.int .i64 (packNo r)) := by unfold codeV; rw [if_neg hno]
          rw [hcv] at HP
          rw [hm] at HM
          obtain ⟨rk, r1, r2, r3, r4⟩ := r
          dsimp only at p0 p1 p2 p3 p4
          unfold RecS.val at HP HM
          dsimp only at HP HM
          have FF := hid (And.intro hj (And.intro hgs hgl))
          clear hR hj hr hno hgs hgl hpb hpu hcv hm
          go_wp2_with fail
          refine (HP.out _).mono ?_
          rintro e w4 ⟨A4, c4, rfl, _, h4⟩
          have R4 := hid (R0.out.step h4)
          obtain ⟨q0, q1, q2, q3, q4⟩ := P1.out.keep R4.out.b2
          dsimp only at q0 q1 q2 q3 q4
          clear h4 p0 p1 p2 p3 p4
          go_wp2_with fail
          go_region_held3 (fun W => W.cell? ⟨b1, o1 + j * 5, none⟩ = some (.int .i64 rk) ∧ W.cell? ⟨b1, o1 + j * 5 + 1, none⟩ = some (.int .i64 r1) ∧ W.cell? ⟨b1, o1 + j * 5 + 2, none⟩ = some (.int .i64 r2) ∧ W.cell? ⟨b1, o1 + j * 5 + 3, none⟩ = some (.int .i64 r3) ∧ W.cell? ⟨b1, o1 + j * 5 + 4, none⟩ = some (.int .i64 r4))
            (first
              | exact KW.out
              | exact ⟨q0, q1, q2, q3, q4⟩)
            (first
              | (go_at_call 49
                 refine (HM.out _).mono ?_
                 rintro e w5 ⟨rfl, hb2⟩
                 have hbw : Below w4.heap.size w4 w5 := by first | exact hb2 | exact ⟨hb2.os, hb2.tape, hb2.output, hb2.size, hb2.block⟩
                 have KW := hid (And.intro (cell_keep hbw q0) (And.intro (cell_keep hbw q1) (And.intro (cell_keep hbw q2) (And.intro (cell_keep hbw q3) (cell_keep hbw q4)))))
                 have R5 := hid (R4.out.step hbw)
                 clear hb2 hbw)
              | fail)
          all_goals
            clear q0 q1 q2 q3 q4
            have R6 := hid (R5.out.step (bel_drewN _ 1))
            go_wp2_with fail
            have hj := FF.out.1
            go_roundg (gk - 1)
            case measure => omega
            case rel => exact ⟨j + 1, by omega, by go_num, by rw [FF.out.2.1]; first | exact R5.out | exact R6.out⟩
        · have hno : packNo r = 0 := (packNo_may r).2 hm
          have hgs := goods_yes hr hm
          have hps := packs_snoc (goods (rs.take j)) r
          have hpos : 0 < (packU r).length := by
            obtain ⟨k, d, h1, _⟩ := pack_parse hm
            rw [h1]; exact unitBytes_pos k d
          rw [hno, show codeV 0 = .nilIface from rfl] at HP
          rw [hm] at HM
          obtain ⟨rk, r1, r2, r3, r4⟩ := r
          dsimp only at p0 p1 p2 p3 p4
          unfold RecS.val at HP HM
          dsimp only at HP HM
          have hes := endsOf_snoc (goods (rs.take j)) ⟨rk, r1, r2, r3, r4⟩
          have hrc := recCells_snoc (goods (rs.take j)) ⟨rk, r1, r2, r3, r4⟩
          generalize hpu' : packU ⟨rk, r1, r2, r3, r4⟩ = pu at *
          have hpl : (packs (goods (rs.take j))).length + pu.length = (packs (goods (rs.take j) ++ [⟨rk, r1, r2, r3, r4⟩])).length := by rw [hps, List.length_append]
          have hpm : (packs (goods (rs.take j))).map byteV ++ pu.map byteV = (packs (goods (rs.take j) ++ [⟨rk, r1, r2, r3, r4⟩])).map byteV := by rw [hps, List.map_append]
          have hpn : (packs (goods (rs.take j) ++ [⟨rk, r1, r2, r3, r4⟩])).length ≤ 10000 := by have := HL.out; omega
          have FF := hid (And.intro hj (And.intro hgs (And.intro hgl (And.intro hes (And.intro hrc (And.intro hpl (And.intro hpm (And.intro hpn hpos))))))))
          obtain ⟨gs, hgs'⟩ : ∃ gs, gs = goods (rs.take j) := ⟨_, rfl⟩
          rw [← hgs'] at FF R0
          obtain ⟨ns, hns⟩ : ∃ ns, ns = gs ++ [(⟨rk, r1, r2, r3, r4⟩ : RecS)] := ⟨_, rfl⟩
          rw [← hns] at FF
          have hnl : ns.length = gs.length + 1 := by rw [hns]; simp
          have NL := hid hnl
          clear hnl hgs'
          clear hR hj hr hno hgs hgl hpb hpu hm hps hpos hes hrc hpl hpm hpn hpu' hns
          go_wp2_with fail
          refine (HP.out _).mono ?_
          rintro e w4 ⟨A4, c4, rfl, ho, h4⟩
          have R4 := hid (R0.out.step h4)
          have O4 := hid (Byt.of_own ho rfl)
          obtain ⟨q0, q1, q2, q3, q4⟩ := P1.out.keep R4.out.b2
          dsimp only at q0 q1 q2 q3 q4
          clear ho h4 p0 p1 p2 p3 p4
          go_wp2_with fail
          go_region_held3 (fun W => W.cell? ⟨b1, o1 + j * 5, none⟩ = some (.int .i64 rk) ∧ W.cell? ⟨b1, o1 + j * 5 + 1, none⟩ = some (.int .i64 r1) ∧ W.cell? ⟨b1, o1 + j * 5 + 2, none⟩ = some (.int .i64 r2) ∧ W.cell? ⟨b1, o1 + j * 5 + 3, none⟩ = some (.int .i64 r3) ∧ W.cell? ⟨b1, o1 + j * 5 + 4, none⟩ = some (.int .i64 r4))
            (first
              | exact KW.out
              | exact ⟨q0, q1, q2, q3, q4⟩)
            (first
              | (go_at_call 49
                 refine (HM.out _).mono ?_
                 rintro e w5 ⟨rfl, hb2⟩
                 have hbw : Below w4.heap.size w4 w5 := by first | exact hb2 | exact ⟨hb2.os, hb2.tape, hb2.output, hb2.size, hb2.block⟩
                 have KW := hid (And.intro (cell_keep hbw q0) (And.intro (cell_keep hbw q1) (And.intro (cell_keep hbw q2) (And.intro (cell_keep hbw q3) (cell_keep hbw q4)))))
                 have R5 := hid (R4.out.step hbw)
                 have O5 := hid (O4.out.below hbw)
                 clear hb2 hbw)
              | fail)
          all_goals
            clear q0 q1 q2 q3 q4
            have hsz := R5.out.b2.size
            go_wp2_with (first
              | (at_builtin
                 refine wpList_append_form _ rfl (.tmp 48) (.tmp 49) _ rfl w1.heap.size 5 i0 (.int .u8 0) 1 1 Tryd.underlying23 IP.out.1 IP.out.2.1 IP.out.2.2.1 IP.out.2.2.2 rfl (by omega) u5 (packs gs).length ((packs gs).map byteV) rfl (by first | exact R5.out.out | exact R5.out.out.drew) (.slice A4 pu.length c4) pu.length (pu.map byteV) rfl (by first | exact O5.out.from_ | exact O5.out.drew.from_) (one_bytes _) (.inr FF.out.2.2.2.2.2.2.2.2) (by have h1 := FF.out.2.2.2.2.2.1; have h2 := FF.out.2.2.2.2.2.2.2.1; unfold maxLen; omega) (by have h1 := FF.out.2.2.2.2.2.1; have h2 := FF.out.2.2.2.2.2.2.2.1; omega) (by first | exact hsz) (packs ns).length ((packs ns).map byteV) FF.out.2.2.2.2.2.1 FF.out.2.2.2.2.2.2.1 ?_
                 intro g6 cap6 w6 hown6 hgrow6 hat6 hlt6
                 have hgw : w5.grownBy w6 u5.ownBlock := ⟨hgrow6.os, hgrow6.tape, hgrow6.output, hgrow6.size, hgrow6.block⟩
                 have b6 := R5.out.b2.grown hgw hsz (fun k hk => (R5.out.out.lt k hk).1)
                 have S6 := hid (And.intro hown6 (And.intro (own_grown R5.out.out R5.out.ends (by decide) hgw) (And.intro (own_grown R5.out.out R5.out.done (by decide) hgw) b6)))
                 have F6 := hid (blk_from1 (Blk.new w6 3 #[.int .i64 ((packs ns).length : Int)]) 1)
                 clear hown6 hgrow6 hat6 hlt6 hgw b6)
              | (at_builtin
                 refine wpList_append_form _ rfl (.tmp 51) (.tmp 54) _ rfl w1.heap.size 3 i1 (.int .i64 0) 1 8 Tryd.underlying61 IQ.out.1 IQ.out.2.1 IQ.out.2.2.1 IQ.out.2.2.2 rfl (by omega) u6 gs.length (endsOf gs) rfl (by exact S6.out.2.1.alloc _) (.slice (some ⟨w6.heap.size, 0, none⟩) 1 1) 1 [.int .i64 ((packs ns).length : Int)] rfl (by exact F6.out) (by simp [Value.oneCell']) (.inr (by omega)) (by have := FF.out.2.2.1; unfold maxLen; omega) (by have := FF.out.2.2.1; omega) (by have := S6.out.2.2.2.size; simp; omega) (gs.length + 1) (endsOf ns) rfl FF.out.2.2.2.1 ?_
                 intro g7 cap7 w7 hown7 hgrow7 hat7 hlt7
                 have ea := S6.out.2.1.alloc (.cells #[.int .i64 ((packs ns).length : Int)] 3)
                 have oa := S6.out.1.alloc (.cells #[.int .i64 ((packs ns).length : Int)] 3)
                 have da := S6.out.2.2.1.alloc (.cells #[.int .i64 ((packs ns).length : Int)] 3)
                 have ba := S6.out.2.2.2.alloc S6.out.2.2.2.size (.cells #[.int .i64 ((packs ns).length : Int)] 3)
                 have b7 := ba.grown hgrow7 ba.size (fun k hk => (ea.lt k hk).1)
                 have S7 := hid (And.intro hown7 (And.intro (own_grown ea oa (by decide) hgrow7) (And.intro (own_grown ea da (by decide) hgrow7) b7)))
                 obtain ⟨q0, q1, q2, q3, q4⟩ := P1.out.keep S7.out.2.2.2
                 dsimp only at q0 q1 q2 q3 q4
                 have F7 := hid (blk_from5 (c := 1) (m := 1) (Blk.new w7 73 #[.int .i64 rk, .int .i64 r1, .int .i64 r2, .int .i64 r3, .int .i64 r4]) rfl)
                 clear hown7 hgrow7 hat7 hlt7 ea oa da ba b7)
              | (at_builtin
                 refine wpList_append_form _ rfl (.tmp 56) (.tmp 61) _ rfl w1.heap.size 73 i2 (.agg #[.int .i64 0, .int .i64 0, .int .i64 0, .int .i64 0, .int .i64 0]) 5 40 Tryd.underlying68 IR.out.1 IR.out.2.1 IR.out.2.2.1 IR.out.2.2.2 rfl (by omega) u7 gs.length (recCells gs) rfl (by exact S7.out.2.2.1.alloc _) (.slice (some ⟨w7.heap.size, 0, none⟩) 1 1) 1 [.int .i64 rk, .int .i64 r1, .int .i64 r2, .int .i64 r3, .int .i64 r4] rfl (by exact F7.out) (by simp [Value.oneCell']) (.inr (by omega)) (by have := FF.out.2.2.1; unfold maxLen; omega) (by have := FF.out.2.2.1; omega) (by have := S7.out.2.2.2.size; simp; omega) (gs.length + 1) (recCells ns) rfl FF.out.2.2.2.2.1 ?_
                 intro g8 cap8 w8 hown8 hgrow8 hat8 hlt8
                 have ea := S7.out.1.alloc (.cells #[.int .i64 rk, .int .i64 r1, .int .i64 r2, .int .i64 r3, .int .i64 r4] 73)
                 have oa := S7.out.2.1.alloc (.cells #[.int .i64 rk, .int .i64 r1, .int .i64 r2, .int .i64 r3, .int .i64 r4] 73)
                 have da := S7.out.2.2.1.alloc (.cells #[.int .i64 rk, .int .i64 r1, .int .i64 r2, .int .i64 r3, .int .i64 r4] 73)
                 have ba := S7.out.2.2.2.alloc S7.out.2.2.2.size (.cells #[.int .i64 rk, .int .i64 r1, .int .i64 r2, .int .i64 r3, .int .i64 r4] 73)
                 have b8 := ba.grown hgrow8 ba.size (fun k hk => (da.lt k hk).1)
                 have S8 := hid (And.intro hown8 (And.intro (own_grown da oa (by decide) hgrow8) (And.intro (own_grown da ea (by decide) hgrow8) b8)))
                 clear hown8 hgrow8 hat8 hlt8 ea oa da ba b8 q0 q1 q2 q3 q4))
            have hj := FF.out.1
            go_roundg (gk - 1)
            case measure => omega
            case rel =>
              refine ⟨j + 1, by omega, by go_num, ?_⟩
              rw [FF.out.2.1]
              refine ⟨G1.out.et.below S8.out.2.2.2 G1.out.et.lt, G1.out.bel.trans (S8.out.2.2.2.mono G1.out.bel.size), S8.out.2.2.2, S8.out.2.1, ?_, ?_⟩
              · rw [NL.out]; exact S8.out.2.2.1
              · rw [NL.out]; exact S8.out.1
      · have hjr : j = rs.length := by omega
        have hge : rs.length ≤ j := by omega
        have hn : decide ((j : Int) < (rs.length : Int)) = false := by simp; omega
        have hgt : rs.take j = rs := by rw [hjr, List.take_length]
        rw [hgt] at hR
        have hgl := goods_len rs
        have hpb := packs_bound (goods rs)
        have hmay := goods_may rs
        obtain ⟨gs, hgs⟩ : ∃ gs, gs = goods rs := ⟨_, rfl⟩
        rw [← hgs] at hR hgl hpb hmay
        obtain ⟨L, hL⟩ : ∃ L, L = (packs gs).length + 1 := ⟨_, rfl⟩
        obtain ⟨b, p, hp, hpL, hsign⟩ := turn_place a L (by omega) HAW.out
        obtain ⟨nn, n1, n2, n3, n4, n5⟩ := scan_cut gs hmay p (by omega)
        have hfull := scan_full gs hmay
        have hl4 := HL.out
        have hptl : ((packs gs).take p).length = p := by rw [List.length_take]; omega
        have htl : (gs.take nn).length = nn := by rw [List.length_take]; omega
        have HA := hid (fun W x (hW : Byt W x (packs gs)) => gscan_any x (packs gs) W hW (by omega))
        have HB := hid (fun W x (hW : Byt W x ((packs gs).take p)) => gscan_any x ((packs gs).take p) W hW (by omega))
        unfold ScanRes at HA HB
        rw [hfull] at HA
        rw [n2] at HB
        dsimp only at HA HB
        rw [htl] at HB
        obtain ⟨A5, c5, rfl, hc5⟩ := own_slice_cap hR.out
        obtain ⟨A6, c6, rfl, hc6⟩ := own_slice_cap hR.ends
        obtain ⟨A7, c7, rfl, hc7⟩ := own_slice_cap hR.done
        obtain ⟨w5, hw5⟩ : ∃ w5, w5 = wr := ⟨_, rfl⟩
        subst hw5
        have R0 := hid hR
        have p0 : (0 : Int) ≤ (p : Int) := by omega
        have p1 : (p : Int) < (L : Int) := by omega
        have p2 : (0 : Int) < (L : Int) := by omega
        have p3 : ¬ ((L : Int) = 0) := by omega
        have p4 : (L : Int) ≤ 10001 := by omega
        have hgl4 : gs.length ≤ 400 := by omega
        have hpp : (packs gs).length ≤ 10000 := by omega
        have hpp2 : p ≤ (packs gs).length := by omega
        have hL2 : ((packs gs).length : Int) + 1 = (L : Int) := by omega
        have hp2 : b.tmod (((packs gs).length : Int) + 1) = (p : Int) := by rw [hL2]; exact hp
        have p5 : ¬ (((packs gs).length : Int) + 1 = 0) := by omega
        have FF := hid (And.intro n1 (And.intro n3 (And.intro n4 (And.intro n5 (And.intro hpp2 (And.intro hptl htl))))))
        have SG := hid hsign
        clear hL2 hR hgl hpb hmay hgs hgt hjr hj n1 n2 n3 n4 n5 hfull hptl htl hsign hL hpL hpp2 hl4
        go_upto_if 64 with fail
        go_cut [1] from 65 to 67 (fun v W => v = .int .i64 b ∧ w5 = W)
        case first =>
          rcases SG.out with ⟨hsg, hb⟩ | ⟨hsg, hb⟩
          all_goals
            go_wp2_with fail
            all_goals
              go_meet
              case rel =>
                refine ⟨?_, rfl⟩
                first
                  | rfl
                  | (rw [hb]; done)
                  | (exfalso; simp at hsg; omega)
        case rest =>
          obtain ⟨rfl, rfl⟩ := hcut
          go_upto_block 2 with fail
          clear hp hp2
          go_cut [11, 12] from 73 to 90 (fun v v' W => v = .int .i64 nn ∧ v' = .int .i64 (packs (gs.take nn)).length ∧ w5 = W)
          case first =>
            go_wp2_with fail
            go_loopg [11, 12] nn (fun k iv ev wr => wr = w5 ∧ ∃ i : Nat, i + k = nn ∧ iv = .int .i64 i ∧ ev = .int .i64 (packs (gs.take i)).length)
            case atStart => exact ⟨rfl, 0, by omega, rfl, rfl⟩
            case round =>
              obtain ⟨rfl, i, hi, rfl, rfl⟩ := hrel
              have hnn := FF.out.1
              by_cases hlt : i < nn
              · have hue := FF.out.2.2.1 i hlt
                obtain ⟨g9, rfl, hc9⟩ := R0.out.end_cell (show i < gs.length by omega)
                obtain ⟨q, hq⟩ : ∃ q, q = (packs (gs.take (i + 1))).length := ⟨_, rfl⟩
                rw [← hq] at hc9 hue
                have d1 : decide ((i : Int) < (gs.length : Int)) = true := by simp; omega
                have d2 : decide ((q : Int) ≤ (p : Int)) = true := by simp; omega
                have k0 : (0 : Int) ≤ (i : Int) := by omega
                have k1 : (i : Int) < (gs.length : Int) := by omega
                have II := hid (And.intro hi (And.intro hlt hq))
                clear hi hlt hq
                go_wp2_with fail
                obtain ⟨hi, hlt, hq⟩ := II.out
                go_roundg (gk - 1)
                case measure => omega
                case rel => exact ⟨rfl, i + 1, by omega, by first | go_num | (rw [IntWalk.wrap64_in _ (by constructor <;> omega)]; rfl), by rw [hq]⟩
              · obtain rfl : i = nn := by omega
                have hends : (gs.length ≤ i ∧ decide ((i : Int) < (gs.length : Int)) = false) ∨ (i < gs.length ∧ decide ((i : Int) < (gs.length : Int)) = true ∧ ∃ (u g9 : Nat), A6 = some ⟨g9, 0, none⟩ ∧ wr.cell? ⟨g9, i, none⟩ = some (.int .i64 (u : Nat)) ∧ decide ((u : Int) ≤ (p : Int)) = false ∧ p < u) := by
                  rcases Nat.lt_or_ge i gs.length with h | h
                  · have hue := FF.out.2.2.2.1 h
                    obtain ⟨g9, h1, h2⟩ := R0.out.end_cell h
                    exact .inr ⟨h, by simp; omega, _, g9, h1, h2, by simp; omega, hue⟩
                  · exact .inl ⟨h, by simp; omega⟩
                rcases hends with ⟨hn0, hn⟩ | ⟨hn0, hn, uu, g9, rfl, hc9, hn2, hn3⟩
                all_goals
                  go_wp2_with fail
                  go_meet
                  case rel => exact ⟨rfl, rfl, rfl⟩
          case rest =>
            obtain ⟨rfl, rfl, rfl⟩ := hcut
            have hcp : ¬ (c5 < p) := by have := FF.out.2.2.2.2.1; omega
            have hnn := FF.out.1
            go_wp2_with fail
            refine (HA.out _ _ (Byt.of_own R0.out.out rfl)).mono ?_
            rintro e w6 ⟨av, rfl, ho, h6⟩
            obtain ⟨A8, c8, rfl⟩ := own_slice ho
            have R6 := hid (R0.out.step h6)
            have M6 := hid (RdR.of_own ho)
            clear ho h6
            go_wp2_with fail
            refine (HB.out _ _ (by have h := Byt.take (k := p) (Byt.of_own R6.out.out rfl) FF.out.2.2.2.2.1; exact h)).mono ?_
            rintro e w7 ⟨sv, rfl, ho, h7⟩
            obtain ⟨A9, c9, rfl⟩ := own_slice ho
            have R7 := hid (R6.out.step h7)
            have M7 := hid (And.intro (M6.out.below h7) (And.intro (show RdR w7 (.slice A9 nn c9) (gs.take nn) from RdR.of_own (by rw [FF.out.2.2.2.2.2.2]; exact ho)) (RdR.of_own R7.out.done)))
            clear ho h7
            go_wp2_with fail
            go_loopg [17] gs.length (fun k iv wr => ∃ i : Nat, i + k = gs.length ∧ iv = .int .i64 i ∧ Below w7.heap.size w7 wr)
            case atStart => exact ⟨0, by omega, rfl, Below.refl _ _⟩
            case round =>
              obtain ⟨i, hi, rfl, hb⟩ := hrel
              by_cases hli : i < gs.length
              · obtain ⟨⟨rk, r1, r2, r3, r4⟩, hp⟩ : ∃ p, gs[i]? = some p := ⟨gs[i], List.getElem?_eq_getElem hli⟩
                obtain ⟨b1, o1, rfl, _, p0, p1, p2, p3, p4⟩ := (M7.out.1.below hb).at_ hp
                obtain ⟨b2, o2, rfl, _, q0, q1, q2, q3, q4⟩ := (M7.out.2.2.below hb).at_ hp
                dsimp only at p0 p1 p2 p3 p4 q0 q1 q2 q3 q4
                have k0 : (0 : Int) ≤ (i : Int) := by omega
                have k1 : (i : Int) < (gs.length : Int) := by omega
                have hx2 : ∀ W2 : World, (Instr.indexAt 68 (.slice (some ⟨b1, o1, none⟩) gs.length c8) (.int .i64 i)).run Tryd.prog W2 = .ok (.pointer (some ⟨b1, o1 + i * 5, none⟩)) W2 := by
                  intro W2
                  go_simp
                have hx3 : ∀ W2 : World, (Instr.indexAt 68 (.slice (some ⟨b2, o2, none⟩) gs.length c7) (.int .i64 i)).run Tryd.prog W2 = .ok (.pointer (some ⟨b2, o2 + i * 5, none⟩)) W2 := by
                  intro W2
                  go_simp
                by_cases hin : i < nn
                · have hq : (gs.take nn)[i]? = some ⟨rk, r1, r2, r3, r4⟩ := by rw [List.getElem?_take_of_lt hin]; exact hp
                  obtain ⟨b3, o3, rfl, _, s0, s1, s2, s3, s4⟩ := (M7.out.2.1.below hb).at_ hq
                  dsimp only at s0 s1 s2 s3 s4
                  have k2 : (i : Int) < (nn : Int) := by omega
                  have d1 : decide ((i : Int) < (nn : Int)) = true := by simp; omega
                  have hx4 : ∀ W2 : World, (Instr.indexAt 68 (.slice (some ⟨b3, o3, none⟩) nn c9) (.int .i64 i)).run Tryd.prog W2 = .ok (.pointer (some ⟨b3, o3 + i * 5, none⟩)) W2 := by
                    intro W2
                    go_simp
                  have HJ := hid (And.intro hi (And.intro hli hb))
                  clear hi hp hq hli hb
                  go_wp2_with fail
                  go_region_held3 (fun W => W.cell? ⟨b1, o1 + i * 5, none⟩ = some (.int .i64 rk) ∧ W.cell? ⟨b1, o1 + i * 5 + 1, none⟩ = some (.int .i64 r1) ∧ W.cell? ⟨b1, o1 + i * 5 + 2, none⟩ = some (.int .i64 r2) ∧ W.cell? ⟨b1, o1 + i * 5 + 3, none⟩ = some (.int .i64 r3) ∧ W.cell? ⟨b1, o1 + i * 5 + 4, none⟩ = some (.int .i64 r4) ∧ W.cell? ⟨b2, o2 + i * 5, none⟩ = some (.int .i64 rk) ∧ W.cell? ⟨b2, o2 + i * 5 + 1, none⟩ = some (.int .i64 r1) ∧ W.cell? ⟨b2, o2 + i * 5 + 2, none⟩ = some (.int .i64 r2) ∧ W.cell? ⟨b2, o2 + i * 5 + 3, none⟩ = some (.int .i64 r3) ∧ W.cell? ⟨b2, o2 + i * 5 + 4, none⟩ = some (.int .i64 r4) ∧ W.cell? ⟨b3, o3 + i * 5, none⟩ = some (.int .i64 rk) ∧ W.cell? ⟨b3, o3 + i * 5 + 1, none⟩ = some (.int .i64 r1) ∧ W.cell? ⟨b3, o3 + i * 5 + 2, none⟩ = some (.int .i64 r2) ∧ W.cell? ⟨b3, o3 + i * 5 + 3, none⟩ = some (.int .i64 r3) ∧ W.cell? ⟨b3, o3 + i * 5 + 4, none⟩ = some (.int .i64 r4))
                    (exact ⟨p0, p1, p2, p3, p4, q0, q1, q2, q3, q4, s0, s1, s2, s3, s4⟩)
                    (fail)
                  all_goals
                    go_wp2_with fail
                    have hi := HJ.out
                    go_roundg (gk - 1)
                    case measure => omega
                    case rel => exact ⟨i + 1, by omega, by go_num, by first | exact hi.2.2.drew | exact hi.2.2⟩
                · have d1 : decide ((i : Int) < (nn : Int)) = false := by simp; omega
                  have d2 : decide (i < nn) = false := by simp; omega
                  have d3 : ¬ (i < nn) := hin
                  have HJ := hid (And.intro hi (And.intro hli hb))
                  clear hi hp hli hin hb
                  go_wp2_with fail
                  go_big_quiet (fail)
                  all_goals
                    go_wp2_with fail
                    have hi := HJ.out
                    go_roundg (gk - 1)
                    case measure => omega
                    case rel => exact ⟨i + 1, by omega, by go_num, hi.2.2.trans ((bel_drewN _ _).mono hi.2.2.size)⟩
              · have hge2 : gs.length ≤ i := by omega
                have hn3 : decide ((i : Int) < (gs.length : Int)) = false := by simp; omega
                have R8 := hid (R7.out.step hb)
                clear hb
                go_wp2_with fail
                refine (gfirst_any _ (by exact R8.out.et)).mono ?_
                rintro e w9 ⟨rfl, h9⟩
                have R9 := hid (R8.out.step h9)
                clear h9
                go_wp2_with fail
                go_ret
                exact ⟨rfl, R9.out.bel⟩
end Go.Proofs.YtabklmkdneoaaaaDoor
