/- RacDecodes: the walk. -/
import Derived.Test.YtgdhbmpdicdbpaaDoorLawZeros
import Derived.Test.YtgdhbmpdicdbpaaDoorRacEq
namespace Go.Proofs.YtgdhbmpdicdbpaaDoor
open Go.RowKit

def BysAt12 (w : World) (x : Value) (bs : List UInt8) : Prop := From w 1 x bs.length (bs.map byteV)
theorem From.below12 {w w' : World} {size m : Nat} {x : Value} {news : List Value} (h : From w size x m news) (hb : Below w.heap.size w w') : From w' size x m news := by
  obtain ⟨A, c, h2, h3, h4⟩ := h
  refine ⟨A, c, h2, h3, fun h0 => ?_⟩
  obtain ⟨ad, h5, h6⟩ := h4 h0
  refine ⟨ad, h5, fun j u hu => ?_⟩
  have := h6 j u hu
  have hl := World.block_lt_of_cell? _ _ this
  exact (hb.cell hl).trans this
theorem from_form12 {w : World} {x : Value} {bs : List UInt8} (h : BysAt12 w x bs) : ∃ A c, x = .slice A bs.length c := by
  obtain ⟨A, c, h1, _⟩ := h
  exact ⟨A, c, h1⟩
theorem u8_not12 (x : UInt8) : bits .xor .u8 (x.toNat : Int) 255 = (((x ^^^ 255).toNat : Nat) : Int) := by
  have h : bits .xor .u8 (x.toNat : Int) ((255 : Nat) : Int) = ((x.toNat ^^^ 255 : Nat) : Int) := u8_xor_nat _ _ x.toNat_lt (by omega)
  rw [UInt8.toNat_xor]
  exact h
theorem set_byte12 (l : List UInt8) (j : Nat) (y : UInt8) : (l.map byteV).set j (byteV y) = (l.set j y).map byteV := by rw [List.map_set]
theorem below_only12 {S : Nat → Prop} {B : Nat} {w w' : World} (h : Only S w w') (hB : B ≤ w.heap.size) (hS : ∀ k, k < B → ¬ S k) : Below B w w' := ⟨h.os, h.tape, h.output, h.size, fun k hk => h.block k (by omega) (hS k hk)⟩

/-! ### The document's decoder -/
def RDecO (b : Nat) (w : World) (F : Nat → Prop) (d : Dec) : Prop := ∃ g c, RDecAt w b g c d ∧ F = fun k => k = b ∨ k = g
theorem rdec_obj (b : Nat) : IsObj (RDecO b) where
  keep := by
    rintro w w' F S s ⟨g, c, h, rfl⟩ ho hd
    obtain ⟨cs, hb, hr⟩ := h.bys
    exact ⟨g, c, ⟨h.blk.keep ho (hd b (.inl rfl)), ⟨cs, hb.keep ho (hd g (.inr rfl)), hr⟩, h.len⟩, rfl⟩
  there := by
    rintro w F s k ⟨g, c, h, rfl⟩ (rfl | rfl)
    · exact h.blk.lt
    · obtain ⟨cs, hb, hr⟩ := h.bys
      exact hb.lt
theorem rdec_flat_o (b : Nat) (d : Dec) (F : Nat → Prop) (w : World) (hd : RDecO b w F d) (ho : d.ROk 1000000000) :
    Calls Tryd.prog 27 #[.pointer (some ⟨b, 0, none⟩)] w fun y w' => y = .returned (.bool (d.bit (d.r / 2))) ∧ MovedO (RDecO b) w F (d.rnarrow (d.r / 2)) w' := by
  obtain ⟨g, c, h, rfl⟩ := hd
  refine (rdec_flat b g c d w h ho).mono ?_
  rintro y w' ⟨rfl, h1, h2⟩
  exact ⟨rfl, _, ⟨g, c, h1, rfl⟩, h2.mono (fun k _ hk => .inl hk), fun k hk => .inl hk⟩
theorem rdec_code_o (b p : Nat) (d : Dec) (F : Nat → Prop) (w : World) (hd : RDecO b w F d) (ho : d.ROk 1000000000) (h1 : 1 ≤ p) (h2 : p ≤ 2047) :
    Calls Tryd.prog 29 #[.pointer (some ⟨b, 0, none⟩), .int .i64 p] w fun y w' => y = .returned (.tuple #[.bool (d.bit (d.r / 2048 * p)), .agg #[.int .i64 0, .slice none 0 0]]) ∧ MovedO (RDecO b) w F (d.rnarrow (d.r / 2048 * p)) w' := by
  obtain ⟨g, c, h, rfl⟩ := hd
  refine (rdec_code b g c p d w h ho h1 h2).mono ?_
  rintro y w' ⟨rfl, h1, h2⟩
  exact ⟨rfl, _, ⟨g, c, h1, rfl⟩, h2.mono (fun k _ hk => .inl hk), fun k hk => .inl hk⟩
theorem rdec_over_o (b : Nat) (d : Dec) (F : Nat → Prop) (w : World) (hd : RDecO b w F d) (hat : d.at_ ≤ 1000000000) :
    Calls Tryd.prog 31 #[.pointer (some ⟨b, 0, none⟩)] w fun e w' => e = .returned (.int .i64 (d.at_ - d.bs.length : Nat)) ∧ ∃ m, w' = w.drewN m := by
  obtain ⟨g, c, h, rfl⟩ := hd
  exact rdec_over b g c d w h hat
theorem new_rdec_o (x : Value) (bs : List UInt8) (w : World) (hx : From w 1 x bs.length (bs.map byteV)) (hl : bs.length ≤ 1000000000) :
    Calls Tryd.prog 25 #[x] w (NewO RDecO w (Dec.rnew bs)) := by
  refine (rnew_decoder x bs w hx hl).mono ?_
  rintro e w' ⟨b, g, c, rfl, h1, h2, h3, h4⟩
  exact ⟨_, _, rfl, ⟨g, c, h1, rfl⟩, by rintro k (rfl | rfl) <;> assumption, h4⟩
def Dec.rop (d : Dec) (p : Int) : Bool × Dec := if p = 0 then (d.bit (d.r / 2), d.rnarrow (d.r / 2)) else if 1 ≤ p ∧ p ≤ 2047 then (d.bit (d.r / 2048 * p.toNat), d.rnarrow (d.r / 2048 * p.toNat)) else (false, d)
theorem Dec.ROk.up {e : Dec} {n m : Nat} (h : e.ROk n) (hn : n ≤ m) : e.ROk m := ⟨h.r0, h.r1, h.off, Nat.le_trans h.at_ hn⟩
theorem Dec.rop_ok {d : Dec} {n : Nat} (h : d.ROk n) (p : Int) : (d.rop p).2.ROk (n + 3) := by
  unfold Dec.rop
  split
  · exact (Dec.rnarrow_ok h (by have := h.r0; omega) (by have := h.r0; omega)).1
  · split
    · have := share_ok (p := p.toNat) h.r0 (by omega) (by omega)
      exact (Dec.rnarrow_ok h this.1 this.2).1
    · exact h.up (by omega)
theorem DecSim.op {d x : Dec} (h : DecSim d x) {n : Nat} (ho : d.Ok n) (p : Int) : (x.rop p).1 = (d.op p).1 ∧ DecSim (d.op p).2 (x.rop p).2 := by
  unfold Dec.op Dec.rop
  have hr := ho.r0
  rw [h.r] at hr ⊢
  split
  · exact ⟨(h.bit _ (by omega)).symm, h.narrow _ (by omega)⟩
  · split
    · have := share_ok (p := p.toNat) hr (by omega) (by omega)
      exact ⟨(h.bit _ this.2).symm, h.narrow _ this.2⟩
    · exact ⟨rfl, h⟩
theorem rdec_new_ok (bs : List UInt8) : (Dec.rnew bs).ROk 4 := by
  have h0 := byteAt_lt bs 0
  have h1 := byteAt_lt bs 1
  have h2 := byteAt_lt bs 2
  have h3 := byteAt_lt bs 3
  refine ⟨by show 16777216 ≤ 4294967295; omega, by show 4294967295 ≤ 4294967295; omega, ?_, by show 4 ≤ 4; omega⟩
  show (Dec.rnew bs).off ≤ _
  simp only [Dec.rnew, Dec.rnext]
  omega
theorem err_same0 (w : World) (hg : ErrT w) : Calls Tryd.prog 14 #[.nilIface, .agg #[.int .i64 0, .slice none 0 0]] w fun e w' => e = .returned (.bool true) ∧ Below w.heap.size w w' := err_same 0 w hg
theorem err_same3 (w : World) (hg : ErrT w) : Calls Tryd.prog 14 #[.iface 35 (.int .i64 3), .agg #[.int .i64 3, .slice none 0 0]] w fun e w' => e = .returned (.bool true) ∧ Below w.heap.size w w' := err_same 3 w hg

set_option maxRecDepth 100000 in
set_option maxHeartbeats 4000000 in
theorem decodes_walk (x y : Value) (bs : List UInt8) (l : List Op12) (w : World) (hx : BysAt12 w x bs) (_ : bs.length ≤ maxLen) (hy : OpsAt12 w y l) (_ : l.length ≤ maxLen) (hg : ErrT w) :
    Calls Tryd.prog 5 #[x, y] w fun e w' => e = .returned (.bool true) ∧ Below w.heap.size w w' := by
  obtain ⟨A, c, rfl⟩ := from_form12 hx
  obtain ⟨A2, c2, rfl, hy2⟩ := hy
  have Y := hid hy2
  have X := hid hx
  have HG := hid (And.intro hg hg.lt)
  clear hx hy2 hg
  by_cases hbig : 20000 < bs.length
  · have hb' : (20000 : Int) < (bs.length : Int) := by omega
    clear hbig
    go_enter Tryd.func5, Tryd.ntmps5
    go_wp2_with fail
    refine (first_any _ HG.out.1).mono ?_
    rintro e w1 ⟨rfl, h1⟩
    have B1 := hid h1
    clear h1
    go_wp2_with fail
    refine (first_any _ (HG.out.1.below B1.out HG.out.2)).mono ?_
    rintro e w2 ⟨rfl, h1⟩
    have B2 := hid h1
    clear h1
    go_wp2_with fail
    go_ret
    exact ⟨rfl, B1.out.trans (B2.out.mono B1.out.size)⟩
  · have hb' : decide ((20000 : Int) < (bs.length : Int)) = false := by simp; omega
    go_enter Tryd.func5, Tryd.ntmps5
    go_wp2_with fail
    refine (first_any _ HG.out.1).mono ?_
    rintro e w1 ⟨rfl, h1⟩
    have B1 := hid h1
    clear h1
    go_wp2_with fail
    refine (copy_bytes _ bs _ (X.out.below12 B1.out) (by omega)).mono ?_
    rintro e w2 ⟨g, cap, rfl, ho, hb⟩
    have B2 := hid (And.intro ho hb)
    clear ho hb
    go_wp2_with fail
    refine (new_dec_o _ bs _ (From.of_own B2.out.1) (by omega)).mono ?_
    rintro e w3 ⟨rb, F, rfl, a3, f3, b3⟩
    have B3 := hid (And.intro a3 (And.intro f3 b3))
    clear a3 f3 b3
    go_wp2_with fail
    have hg : w.heap.size ≤ g ∧ g < w2.heap.size := by
      have hs1 := B1.out.size
      have hl := (B2.out.1.lt g rfl)
      omega
    have GG := hid hg
    clear hg
    go_loopg [7] bs.length (fun k i wr => ∃ (j : Nat) (cur : List UInt8), j + k = bs.length ∧ i = .int .i64 j ∧ cur.length = bs.length ∧ wr.ownsRow w1.heap.size 5 1 (.slice (some ⟨g, 0, none⟩) bs.length cap) bs.length (cur.map byteV) ∧ Only (· = g) w3 wr)
    case atStart =>
      refine ⟨0, bs, by omega, rfl, rfl, ?_, Only.refl _ _⟩
      exact B2.out.1.kept (row := none) ⟨B3.out.2.2.os, B3.out.2.2.tape, B3.out.2.2.output, B3.out.2.2.size, fun k hk _ => B3.out.2.2.block k hk⟩ (.inr (by simp [Value.ownBlock]))
    case round =>
      obtain ⟨j, cur, hj, rfl, hcl, hown, ho⟩ := hrel
      by_cases hlt : j < bs.length
      · obtain ⟨q, hq⟩ : ∃ q, cur[j]? = some q := ⟨cur[j]'(by omega), List.getElem?_eq_getElem (by omega)⟩
        have hx := hown.cellAt j (by omega)
        have fx := hown.frozenAt j
        simp [hq, byteV] at hx
        have hn := u8_not12 q
        have j0 : (0 : Int) ≤ (j : Int) := by omega
        have j1 : (j : Int) < (bs.length : Int) := by omega
        have XX := hid (And.intro hown (And.intro ho (And.intro hcl (And.intro hj hq))))
        have hqlt := q.toNat_lt
        generalize hqn : q.toNat = qn at *
        generalize hqm : (q ^^^ 255).toNat = qm at *
        have QQ := hid (And.intro hqn hqm)
        clear hown ho hq hcl hj hqn hqm
        go_wp2_with fail
        obtain ⟨hown, ho, hcl, hj, hq⟩ := XX.out
        go_roundg (gk - 1)
        case measure => omega
        case rel =>
          refine ⟨j + 1, cur.set j (q ^^^ 255), by omega, by go_num, by simpa using hcl, ?_, ho.put (by rfl) j _⟩
          have := (hown.stored j (byteV (q ^^^ 255))).1
          rw [set_byte12] at this
          rw [← QQ.out.2]
          exact this
      · have XX := hid ho
        have hj1 : decide ((j : Int) < (bs.length : Int)) = false := by simp; omega
        clear ho hown
        have hb3 : Below w.heap.size w wr := by
          have hs1 := B1.out.size
          have hs2 := B2.out.2.size
          have hs3 := B3.out.2.2.size
          refine (B1.out.trans (B2.out.2.mono hs1)).trans ((B3.out.2.2.mono (by omega)).trans ?_)
          exact below_only12 XX.out (by omega) (fun k hk => by have := GG.out.1; omega)
        have hF : DecO rb wr F (Dec.new bs) := (dec_obj rb).keep _ _ F _ _ B3.out.1 XX.out (fun k hk => by have := B3.out.2.1 k hk; have := GG.out.2; omega)
        have BB := hid (And.intro hb3 hF)
        clear hb3 hF
        go_wp2_with fail
        refine (new_rdec_o _ bs _ ((X.out.below12 BB.out.1)) (by omega)).mono ?_
        rintro e w4 ⟨xb, G, rfl, a4, f4, b4⟩
        have T := hid (PairAt.mk2 (B := w.heap.size) (w0 := w) (dec_obj rb) BB.out.2 (fun k hk => by have := B3.out.2.1 k hk; have := B1.out.size; have := B2.out.2.size; omega) BB.out.1 BB.out.1.size a4 f4 b4)
        clear a4 f4 b4
        go_wp2_with fail
        go_loopg [9] l.length (fun k i wr => ∃ (j : Nat) (s t : Dec), j + k = l.length ∧ j ≤ 4000 ∧ i = .int .i64 j ∧ Pair w.heap.size w (DecO rb) (RDecO xb) s t wr ∧ DecSim s t ∧ s.Ok (4 + 3 * j) ∧ t.ROk (4 + 3 * j))
        case atStart => exact ⟨0, _, _, by omega, by omega, rfl, ⟨F, G, T.out⟩, DecSim.new bs, dec_new_ok bs, rdec_new_ok bs⟩
        case round =>
          clear T BB XX GG B3 B2 B1 hj1 hlt hj hcl X
          obtain ⟨j, s, t, hj, hj2, rfl, ⟨F, G, hT⟩, hz, ho1, ho2⟩ := hrel
          have T := hid (And.intro hT (And.intro hz (And.intro hj (And.intro ho1 ho2))))
          clear hT hz hj ho1 ho2
          by_cases hlt : j < l.length ∧ j < 4000
          · have j1 : decide ((j : Int) < (l.length : Int)) = true := by simp; omega
            have j2 : decide ((j : Int) < 4000) = true := by simp; omega
            have JJ := hid hlt
            clear hlt
            obtain ⟨o, hoj⟩ : ∃ o, l[j]? = some o := ⟨l[j]'JJ.out.1, List.getElem?_eq_getElem JJ.out.1⟩
            obtain ⟨lb, off, rfl, hlb, hcs⟩ := Y.out (by intro e; rw [e] at hoj; simp at hoj)
            obtain ⟨c0, c1⟩ := ops12_cells T.out.1.bel hlb (hcs j o hoj)
            have C0 := hid (And.intro (hcs j o hoj) hlb)
            clear hcs hoj
            have k0 : (0 : Int) ≤ (j : Int) := by omega
            have k1 : (j : Int) < (l.length : Int) := by have := JJ.out.1; omega
            obtain ⟨op, ob⟩ := o
            simp only at c0 c1
            have hst := T.out.2.1.op T.out.2.2.2.1 op
            have hk1 := Dec.op_ok T.out.2.2.2.1 op
            have hk2 := Dec.rop_ok T.out.2.2.2.2 op
            have jl := hj2
            have hov : (t.rop op).2.at_ - (t.rop op).2.bs.length = (s.op op).2.at_ - (s.op op).2.bs.length := by rw [hst.2.at_, hst.2.bs]
            have ho1 := T.out.2.2.2.1.up (show 4 + 3 * j ≤ 1000000000 by omega)
            have ho2 := T.out.2.2.2.2.up (show 4 + 3 * j ≤ 1000000000 by omega)
            have hat1 : (s.op op).2.at_ ≤ 1000000000 := by have := hk1.at_; omega
            have hat2 : (t.rop op).2.at_ ≤ 1000000000 := by have := hk2.at_; omega
            have NX := hid (And.intro hst (And.intro hk1 (And.intro hk2 (And.intro hov (And.intro hat1 hat2)))))
            have OK := hid (And.intro ho1 ho2)
            have KK := hid (And.intro T.out.2.2.1 JJ.out)
            clear hst hk1 hk2 hov ho1 ho2 hat1 hat2
            by_cases h0 : op = 0
            · subst h0
              have e1 : s.op 0 = (s.bit (s.r / 2), s.narrow (s.r / 2)) := by unfold Dec.op; rw [if_pos rfl]
              have e2 : t.rop 0 = (t.bit (t.r / 2), t.rnarrow (t.r / 2)) := by unfold Dec.rop; rw [if_pos rfl]
              rw [e1, e2] at NX
              have hbit := hid NX.out.1.1
              clear e1 e2
              go_wp2_with fail
              refine (dec_flat_o rb s F _ (by exact T.out.1.l) OK.out.1).mono ?_
              rintro y w6 ⟨rfl, hm⟩
              obtain ⟨F3, G3, hT3⟩ := T.out.1.left (rdec_obj xb) hm
              have T3 := hid hT3
              clear hm hT3 c0 c1
              go_wp2_with fail
              refine (rdec_flat_o xb t G3 _ (by exact T3.out.r) OK.out.2).mono ?_
              rintro y w7 ⟨rfl, hm⟩
              obtain ⟨F4, G4, hT4⟩ := T3.out.right (dec_obj rb) hm
              have T4 := hid hT4
              clear hm hT4
              rw [show t.bit (t.r / 2) = s.bit (s.r / 2) from hbit.out]
              go_wp2_with fail
              refine (dec_over_o rb _ F4 _ (by exact T4.out.l) NX.out.2.2.2.2.1).mono ?_
              rintro y w8 ⟨rfl, m8, rfl⟩
              have T5 := hid (T4.out.read (dec_obj rb) (rdec_obj xb) (only_drewO _ m8))
              go_wp2_with fail
              refine (rdec_over_o xb _ G4 _ (by exact T5.out.r) NX.out.2.2.2.2.2).mono ?_
              rintro y w9 ⟨rfl, m9, rfl⟩
              rw [NX.out.2.2.2.1]
              clear T T3 T5
              go_wp2_with fail
              have kk := KK.out
              go_roundg (gk - 1)
              case measure => omega
              case rel => exact ⟨j + 1, _, _, by omega, by omega, by go_num, ⟨F4, G4, T4.out.read (dec_obj rb) (rdec_obj xb) (only_drewO _ _)⟩, NX.out.1.2, NX.out.2.1, NX.out.2.2.1⟩
            · have hz0 : (op == 0) = false := by simpa using h0
              by_cases h1 : 1 ≤ op ∧ op ≤ 2047
              · have e1 : s.op op = (s.bit (s.r / 2048 * op.toNat), s.narrow (s.r / 2048 * op.toNat)) := by unfold Dec.op; rw [if_neg h0, if_pos h1]
                have e2 : t.rop op = (t.bit (t.r / 2048 * op.toNat), t.rnarrow (t.r / 2048 * op.toNat)) := by unfold Dec.rop; rw [if_neg h0, if_pos h1]
                rw [e1, e2] at NX
                obtain ⟨m, rfl⟩ := Int.eq_ofNat_of_zero_le (show 0 ≤ op by omega)
                simp only [Int.toNat_natCast] at NX
                have hbit := hid NX.out.1.1
                have hm1 := hid (show 1 ≤ m ∧ m ≤ 2047 by omega)
                clear e1 e2 h0 h1
                go_wp2_with fail
                refine (dec_code_o rb m s F _ (by exact T.out.1.l) OK.out.1 hm1.out.1 hm1.out.2).mono ?_
                rintro y w6 ⟨rfl, hm⟩
                obtain ⟨F3, G3, hT3⟩ := T.out.1.left (rdec_obj xb) hm
                obtain ⟨d0, d1⟩ := ops12_cells (o := ⟨m, ob⟩) hT3.bel C0.out.2 C0.out.1
                have T3 := hid hT3
                clear hm hT3 c0 c1
                simp only at d0 d1
                go_wp2_with fail
                refine (rdec_code_o xb m t G3 _ (by exact T3.out.r) OK.out.2 hm1.out.1 hm1.out.2).mono ?_
                rintro y w7 ⟨rfl, hm⟩
                obtain ⟨F4, G4, hT4⟩ := T3.out.right (dec_obj rb) hm
                have T4 := hid (hT4.read (dec_obj rb) (rdec_obj xb) ((Only.refl _ w7).alloc (.cells #[.int .i64 0, .slice none 0 0] 38)))
                clear hm hT4 d0 d1
                rw [show t.bit (t.r / 2048 * m) = s.bit (s.r / 2048 * m) from hbit.out]
                go_wp2_with fail
                refine (err_same0 _ (HG.out.1.below T4.out.bel HG.out.2)).mono ?_
                rintro y w8 ⟨rfl, hb8⟩
                have T5 := hid (T4.out.below (dec_obj rb) (rdec_obj xb) hb8)
                clear hb8
                go_wp2_with fail
                refine (dec_over_o rb _ F4 _ (by exact T5.out.l) NX.out.2.2.2.2.1).mono ?_
                rintro y w9 ⟨rfl, m9, rfl⟩
                have T6 := hid (T5.out.read (dec_obj rb) (rdec_obj xb) (only_drewO _ m9))
                go_wp2_with fail
                refine (rdec_over_o xb _ G4 _ (by exact T6.out.r) NX.out.2.2.2.2.2).mono ?_
                rintro y w10 ⟨rfl, m10, rfl⟩
                rw [NX.out.2.2.2.1]
                clear T T3 T4 T6
                go_wp2_with fail
                have kk := KK.out
                go_roundg (gk - 1)
                case measure => omega
                case rel => exact ⟨j + 1, _, _, by omega, by omega, by go_num, ⟨F4, G4, T5.out.read (dec_obj rb) (rdec_obj xb) (only_drewO _ _)⟩, NX.out.1.2, NX.out.2.1, NX.out.2.2.1⟩
              · have e1 : s.op op = (false, s) := by unfold Dec.op; rw [if_neg h0, if_neg h1]
                have e2 : t.rop op = (false, t) := by unfold Dec.rop; rw [if_neg h0, if_neg h1]
                rw [e1, e2] at NX
                have hm1 := hid (show op < 1 ∨ 2047 < op by omega)
                clear h0 h1 e1 e2
                go_wp2_with fail
                refine (dec_code_no_o rb op s F _ (by exact T.out.1.l) hm1.out).mono ?_
                rintro y w6 ⟨rfl, rfl⟩
                go_wp2_with fail
                refine (rdec_code_no xb op _ hm1.out).mono ?_
                rintro y w7 ⟨rfl, hb7⟩
                have T4 := hid ((T.out.1.below (dec_obj rb) (rdec_obj xb) hb7).read (dec_obj rb) (rdec_obj xb) ((Only.refl _ w7).alloc (.cells #[.int .i64 3, .slice none 0 0] 38)))
                clear hb7 c0 c1
                go_wp2_with fail
                refine (err_same3 _ (HG.out.1.below T4.out.bel HG.out.2)).mono ?_
                rintro y w8 ⟨rfl, hb8⟩
                have T5 := hid (T4.out.below (dec_obj rb) (rdec_obj xb) hb8)
                clear hb8
                go_wp2_with fail
                refine (dec_over_o rb _ F _ (by exact T5.out.l) NX.out.2.2.2.2.1).mono ?_
                rintro y w9 ⟨rfl, m9, rfl⟩
                have T6 := hid (T5.out.read (dec_obj rb) (rdec_obj xb) (only_drewO _ m9))
                go_wp2_with fail
                refine (rdec_over_o xb _ G _ (by exact T6.out.r) NX.out.2.2.2.2.2).mono ?_
                rintro y w10 ⟨rfl, m10, rfl⟩
                rw [NX.out.2.2.2.1]
                clear T T4 T6
                go_wp2_with fail
                have kk := KK.out
                go_roundg (gk - 1)
                case measure => omega
                case rel => exact ⟨j + 1, _, _, by omega, by omega, by go_num, ⟨F, G, T5.out.read (dec_obj rb) (rdec_obj xb) (only_drewO _ _)⟩, NX.out.1.2, NX.out.2.1, NX.out.2.2.1⟩
          · have hex : (l.length ≤ j ∨ (j < l.length ∧ 4000 ≤ j)) := by omega
            clear hlt
            rcases hex with hj1 | ⟨hj1, hj3⟩
            all_goals
              first
                | have q1 : decide ((j : Int) < (l.length : Int)) = false := by simp; omega
                | have q1 : decide ((j : Int) < (l.length : Int)) = true := by simp; omega
              have q2 : 4000 ≤ j → decide ((j : Int) < 4000) = false := by intro h; simp; omega
              first
                | have q3 := q2 hj3
                | skip
              clear q2
              go_wp2_with fail
              refine (first_any _ (HG.out.1.below T.out.1.bel HG.out.2)).mono ?_
              rintro y w9 ⟨rfl, h9⟩
              have T6 := hid (T.out.1.below (dec_obj rb) (rdec_obj xb) h9)
              clear h9
              go_wp2_with fail
              go_ret
              exact ⟨rfl, T6.out.bel⟩
end Go.Proofs.YtgdhbmpdicdbpaaDoor
