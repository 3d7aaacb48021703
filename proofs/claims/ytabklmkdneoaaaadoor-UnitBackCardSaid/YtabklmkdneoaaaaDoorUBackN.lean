/- UnitBack: made: the walk. -/
import Derived.Test.YtabklmkdneoaaaaDoorUBackM
import Derived.Test.YtabklmkdneoaaaaDoorUMakeAny
import Derived.Test.YtabklmkdneoaaaaDoorULawJoins
namespace Go.Proofs.YtabklmkdneoaaaaDoor
open Go.RowKit

def piecesTo (ks : List Int) (ds : List (List UInt8)) (j : Nat) : List Piece :=
  ((ks.zip ds).take j).filterMap fun p => if makeNo p.1 p.2.length = 0 then some (p.1.toNat, p.2) else none
theorem piecesTo_yes {ks : List Int} {ds : List (List UInt8)} {j : Nat} {z : Int} {d : List UInt8} (hk : ks[j]? = some z) (hd : ds[j]? = some d) (h : makeNo z d.length = 0) : piecesTo ks ds (j + 1) = piecesTo ks ds j ++ [(z.toNat, d)] := by
  unfold piecesTo
  have hz : (ks.zip ds)[j]? = some (z, d) := by rw [List.getElem?_zip_eq_some]; exact ⟨hk, hd⟩
  rw [List.take_add_one, hz]
  simp [h]
theorem piecesTo_no {ks : List Int} {ds : List (List UInt8)} {j : Nat} {z : Int} {d : List UInt8} (hk : ks[j]? = some z) (hd : ds[j]? = some d) (h : makeNo z d.length ≠ 0) : piecesTo ks ds (j + 1) = piecesTo ks ds j := by
  unfold piecesTo
  have hz : (ks.zip ds)[j]? = some (z, d) := by rw [List.getElem?_zip_eq_some]; exact ⟨hk, hd⟩
  rw [List.take_add_one, hz]
  simp [h]
theorem piecesTo_good (ks : List Int) (ds : List (List UInt8)) (j : Nat) : ∀ p ∈ piecesTo ks ds j, Good p := by
  intro p hp
  unfold piecesTo at hp
  obtain ⟨⟨z, d⟩, _, h⟩ := List.mem_filterMap.1 hp
  dsimp only at h
  split at h
  · rename_i h0
    injection h with h
    subst h
    obtain ⟨h1, h2, h3, h4⟩ := makeNo_zero h0
    refine ⟨by show z.toNat ≤ 255; omega, fun e => ?_, h4⟩
    have e' : z.toNat = 0 := e
    exact List.eq_nil_of_length_eq_zero (h3 (by omega))
  · cases h
theorem fewTo_mono (ds : List (List UInt8)) {i j : Nat} (h : i ≤ j) : fewTo ds i ≤ fewTo ds j := by
  induction h with
  | refl => exact Nat.le_refl _
  | step h ih =>
    rename_i m
    cases hd : ds[m]? with
    | none =>
      have : ds.take (m + 1) = ds.take m := by rw [List.take_add_one, hd]; simp
      unfold fewTo at *
      rw [Nat.succ_eq_add_one, this]
      exact ih
    | some d => rw [Nat.succ_eq_add_one, fewTo_succ hd]; omega
theorem few_each {ds : List (List UInt8)} (h : fewOk ds = true) : ds.length ≤ 200 ∧ (∀ j, fewTo ds j ≤ 20000) ∧ ∀ (i : Nat) (d : List UInt8), ds[i]? = some d → d.length ≤ 20000 := by
  unfold fewOk at h
  simp only [Bool.and_eq_true, decide_eq_true_eq] at h
  obtain ⟨h1, h2⟩ := h
  rw [Nat.min_eq_left h1] at h2
  have h3 : ∀ j, fewTo ds j ≤ 20000 := by
    intro j
    rcases Nat.le_total j ds.length with hj | hj
    · exact Nat.le_trans (fewTo_mono ds hj) h2
    · have e : fewTo ds j = fewTo ds ds.length := by unfold fewTo; rw [List.take_of_length_le hj, List.take_of_length_le (Nat.le_refl _)]
      rw [e]; exact h2
  refine ⟨h1, h3, fun i d hd => ?_⟩
  have := h3 (i + 1)
  rw [fewTo_succ hd] at this
  omega
theorem unitBytes_le (k : Nat) (d : List UInt8) : (unitBytes k d).length ≤ d.length + 8 := by
  by_cases h0 : k = 0
  · subst h0; show ([0] : List UInt8).length ≤ _; simp
  · rw [unitBytes_len _ _ (by omega)]; omega
theorem pieces_bytes {ks : List Int} {ds : List (List UInt8)} (h : fewOk ds = true) : ∀ j, j ≤ ks.length → j ≤ ds.length → (bytesOf (piecesTo ks ds j)).length ≤ fewTo ds j + 8 * j ∧ (piecesTo ks ds j).length ≤ j := by
  intro j
  induction j with
  | zero => intro _ _; exact ⟨by simp [piecesTo, bytesOf], by simp [piecesTo]⟩
  | succ j ih =>
    intro h1 h2
    obtain ⟨ih1, ih2⟩ := ih (by omega) (by omega)
    have hk : ks[j]? = some (ks[j]'(by omega)) := List.getElem?_eq_getElem (by omega)
    have hd : ds[j]? = some (ds[j]'(by omega)) := List.getElem?_eq_getElem (by omega)
    have hl := (few_each h).2.2 j _ hd
    rw [fewTo_succ hd]
    by_cases hm : makeNo (ks[j]'(by omega)) (ds[j]'(by omega)).length = 0
    · rw [piecesTo_yes hk hd hm, bytesOf_snoc]
      have := unitBytes_le (ks[j]'(by omega)).toNat (ds[j]'(by omega))
      constructor
      · rw [List.length_append]; dsimp only; omega
      · rw [List.length_append]; simp; omega
    · rw [piecesTo_no hk hd hm]
      omega
theorem info_int : (Tryd.prog.info? 3).map (fun i => (i.zero, i.size, i.bytes)) = some (some (.int .i64 0), 1, 8) := by kernel_rfl
theorem blk_from1 {w : World} {g : Nat} {t : TypeId} {v : Value} (h : Blk w g t #[v]) (c : Nat) : From w 1 (.slice (some ⟨g, 0, none⟩) 1 c) 1 [v] := by
  refine ⟨_, _, rfl, by simp, fun _ => ⟨_, rfl, fun j u hu => ?_⟩⟩
  rw [addr_add, Nat.zero_add, h.cell]
  simpa using hu
theorem own_grown {W W' : World} {B B' s s' n n' : Nat} {t t' : TypeId} {v v' : Value} {xs xs' : List Value} (h : W.ownsRow B t s v n xs) (h' : W.ownsRow B' t' s' v' n' xs') (hne : t ≠ t') (hg : W.grownBy W' v.ownBlock) : W'.ownsRow B' t' s' v' n' xs' := by
  have ho : Only (fun k => v.ownBlock = some k) W W' := ⟨hg.os, hg.tape, hg.output, hg.size, fun k hk hn => hg.block k hk (fun e => hn e.symm)⟩
  exact own_keep2 h' ho (fun k hk e => own_apart h h' hne e hk)
theorem grown_cell {W W' : World} {row : Option Nat} {b i : Nat} {v : Value} (hg : W.grownBy W' row) (h : W.cell? ⟨b, i, none⟩ = some v) (hne : row ≠ some b) : W'.cell? ⟨b, i, none⟩ = some v :=
  (World.cell?_of_block (w := W) (a := ⟨b, i, none⟩) (hg.block b (World.block_lt_of_cell? _ _ h) (fun e => hne e.symm))).trans h
def endCells (us : List UnitS) : List Value := us.map fun u => .int .i64 u.end_
/-- What made holds. -/
structure MadeAt (w0 : World) (ov ev av : Value) (ps : List Piece) (us : UV) (W : World) : Prop where
  bel : Below w0.heap.size w0 W
  out : W.ownsRow w0.heap.size 5 1 ov (bytesOf ps).length ((bytesOf ps).map byteV)
  ends : W.ownsRow w0.heap.size 3 1 ev ps.length (endCells (unitsAt 0 ps))
  all : W.ownsRow w0.heap.size 35 4 av us.length (unitCells us)
  fsts : us.map Prod.fst = unitsAt 0 ps
  data : ∀ p ∈ us, From w0 1 p.2 p.1.data.length (p.1.data.map byteV)
theorem MadeAt.step {w0 : World} {ov ev av : Value} {ps : List Piece} {us : UV} {W W' : World} (h : MadeAt w0 ov ev av ps us W) (hb : Below W.heap.size W W') : MadeAt w0 ov ev av ps us W' :=
  ⟨h.bel.trans (hb.mono h.bel.size), own_below h.out hb, own_below h.ends hb, own_below h.all hb, h.fsts, h.data⟩
theorem MadeAt.len {w0 : World} {ov ev av : Value} {ps : List Piece} {us : UV} {W : World} (h : MadeAt w0 ov ev av ps us W) : us.length = ps.length := by
  have := congrArg List.length h.fsts
  rw [unitsAt_len] at this
  simpa using this
theorem MadeAt.reads {w0 : World} {ov ev av : Value} {ps : List Piece} {us : UV} {W : World} (h : MadeAt w0 ov ev av ps us W) : RdUnits W av us := by
  refine ⟨?_, fun p hp => from_keep (h.data p hp) h.bel⟩
  rcases h.all.2 with ⟨rfl, h0⟩ | ⟨g, cap, cur, rfl, _, hg, _⟩
  · exact ⟨none, 0, by rw [h0], fun hne => absurd (List.eq_nil_of_length_eq_zero h0) hne⟩
  · refine ⟨some ⟨g, 0, none⟩, cap, rfl, fun _ => ⟨g, 0, rfl, (Array.getElem?_eq_some_iff.1 hg).1, fun i p hp => ?_⟩⟩
    obtain ⟨h1, h2, h3, h4⟩ := unitCells_at us i p hp
    have hi := (List.getElem?_eq_some_iff.1 hp).1
    rw [Nat.zero_add]
    exact ⟨(h.all.cellAt (i * 4) (by omega)).trans h1, (h.all.cellAt (i * 4 + 1) (by omega)).trans h2, (h.all.cellAt (i * 4 + 2) (by omega)).trans h3, (h.all.cellAt (i * 4 + 3) (by omega)).trans h4⟩
def ManyRes (ps : List Piece) (w : World) (e : Ending) (w' : World) : Prop :=
  ∃ ov ev av us, e = .returned (.tuple #[ov, ev, av]) ∧ MadeAt w ov ev av ps us w'
theorem endCells_snoc (ps : List Piece) (p : Piece) : endCells (unitsAt 0 (ps ++ [p])) = endCells (unitsAt 0 ps) ++ [.int .i64 (((bytesOf ps).length + (unitBytes p.1 p.2).length : Nat) : Int)] := by
  unfold endCells
  rw [unitsAt_snoc]
  simp
set_option maxRecDepth 100000 in
set_option maxHeartbeats 4000000 in
theorem made_any (x y : Value) (ks : List Int) (ds : List (List UInt8)) (w : World) (hx : Ints w x ks) (hy : Byts w y ds) (hf : fewOk ds = true) :
    Calls Tryd.prog 40 #[x, y] w (ManyRes (piecesTo ks ds (min ks.length ds.length)) w) := by
  obtain ⟨i0, hi0, hz0, hz1, hz2⟩ := info_parts info_u8
  obtain ⟨i1, hi1, hy0, hy1, hy2⟩ := info_parts info_int
  obtain ⟨i2, hi2, hx0, hx1, hx2⟩ := info_parts info_unit
  have IP := hid (And.intro hi0 (And.intro hz0 (And.intro hz1 hz2)))
  have IQ := hid (And.intro hi1 (And.intro hy0 (And.intro hy1 hy2)))
  have IR := hid (And.intro hi2 (And.intro hx0 (And.intro hx1 hx2)))
  obtain ⟨A, c, rfl, hc⟩ := Els.form hx
  obtain ⟨B, d, rfl, hd⟩ := Els.form hy
  have X := hid (And.intro hx (And.intro hy hf))
  clear hi0 hz0 hz1 hz2 hi1 hy0 hy1 hy2 hi2 hx0 hx1 hx2 hc hd hx hy hf
  go_enter Tryd.func40, Tryd.ntmps40
  go_wp2_with fail
  go_loopg [7, 8, 9, 10] (min ks.length ds.length) (fun k ov ev av iv wr => ∃ (j : Nat) (us : UV), j + k = min ks.length ds.length ∧ iv = .int .i64 j ∧ MadeAt w ov ev av (piecesTo ks ds j) us wr)
  case atStart =>
    refine ⟨0, [], by omega, rfl, Below.refl _ _, ?_, ?_, ?_, rfl, fun p hp => by cases hp⟩
    · exact World.ownsRow_nil _ _ _ _
    · exact World.ownsRow_nil _ _ _ _
    · exact World.ownsRow_nil _ _ _ _
  case round =>
    obtain ⟨j, us, hj, rfl, hM⟩ := hrel
    obtain ⟨hl1, hl2, hl3⟩ := few_each X.out.2.2
    obtain ⟨A7, c7, rfl⟩ := own_slice hM.out
    by_cases hlt : j < min ks.length ds.length
    · obtain ⟨z, hz⟩ : ∃ z, ks[j]? = some z := ⟨ks[j]'(by omega), List.getElem?_eq_getElem (by omega)⟩
      obtain ⟨dd, hd⟩ : ∃ dd, ds[j]? = some dd := ⟨ds[j]'(by omega), List.getElem?_eq_getElem (by omega)⟩
      obtain ⟨b1, o1, rfl, hb1, p0', hzw⟩ := X.out.1.at_ hz
      obtain ⟨b2, o2, v, rfl, hb2, q0', hv', _⟩ := X.out.2.1.at_ hd
      have p0 := cell_keep hM.bel p0'
      have q0 := cell_keep hM.bel q0'
      have hv := hv'.below hM.bel
      obtain ⟨A5, c5, rfl, hc5⟩ := hv.form
      have hdl := hl3 j dd hd
      obtain ⟨hpb, hpl⟩ := pieces_bytes (ks := ks) X.out.2.2 j (by omega) (by omega)
      have hft := hl2 j
      have k0 : (0 : Int) ≤ (j : Int) := by omega
      have k1 : (j : Int) < (ks.length : Int) := by omega
      have k2 : (j : Int) < (ds.length : Int) := by omega
      have kn1 : j < ks.length := by omega
      have kn2 : j < ds.length := by omega
      have hxk : ∀ W2 : World, (Instr.indexAt 61 (.slice (some ⟨b1, o1, none⟩) ks.length c) (.int .i64 j)).run Tryd.prog W2 = .ok (.pointer (some ⟨b1, o1 + j, none⟩)) W2 := by
        intro W2
        go_simp
      have hxd : ∀ W2 : World, (Instr.indexAt 62 (.slice (some ⟨b2, o2, none⟩) ds.length d) (.int .i64 j)).run Tryd.prog W2 = .ok (.pointer (some ⟨b2, o2 + j, none⟩)) W2 := by
        intro W2
        go_simp
      have M0 := hid hM
      have VV := hid (And.intro hv hv')
      have ZD := hid (And.intro hz (And.intro hd (And.intro hj (And.intro hpb (And.intro hpl (And.intro hft (And.intro hl1 hdl)))))))
      clear hM hv hv' hz hd hj hpb hpl hft hl1 hl2 hl3 hdl hlt p0' q0'
      by_cases hmk : makeNo z dd.length = 0
      · obtain ⟨hz0, hz1, hz2, hz3⟩ := makeNo_zero hmk
        obtain ⟨zn, rfl⟩ := Int.eq_ofNat_of_zero_le hz0
        have hmu : mkU (zn : Int) dd = unitBytes zn dd := if_pos hmk
        have MK : Hid (∀ W, Below wr.heap.size wr W → Calls Tryd.prog 22 #[.int .i64 zn, .slice A5 dd.length c5] W fun e w' => ∃ A6 c6, e = .returned (.tuple #[.slice A6 (unitBytes zn dd).length c6, .nilIface]) ∧ w'.ownsRow W.heap.size 5 1 (.slice A6 (unitBytes zn dd).length c6) (unitBytes zn dd).length ((unitBytes zn dd).map byteV) ∧ Below W.heap.size W w') := fun W hb => (make_any zn _ dd W (VV.out.1.below hb)).mono fun e w' h => by
          obtain ⟨bv, h1, h2, h3⟩ := h
          rw [hmu] at h2
          obtain ⟨A6, c6, rfl⟩ := own_slice h2
          exact ⟨A6, c6, by rw [h1, hmk]; rfl, h2, h3⟩
        have hub := unitBytes_le zn dd
        have hup := unitBytes_pos zn dd
        have hyes : piecesTo ks ds (j + 1) = piecesTo ks ds j ++ [(zn, dd)] := piecesTo_yes ZD.out.1 ZD.out.2.1 hmk
        have hw : IntKind.i64.wrap (((bytesOf (piecesTo ks ds j)).length : Int) + ((unitBytes zn dd).length : Int)) = ((bytesOf (piecesTo ks ds j)).length : Int) + ((unitBytes zn dd).length : Int) := IntWalk.i64_in _ (by have := ZD.out; omega)
        have ZM := hid (And.intro hyes (And.intro hub hup))
        clear hmk hmu hz0 hz1 hz2 hz3 hyes hub hup
        go_wp2_with fail
        go_region_held3 (fun W => W.cell? ⟨b1, o1 + j, none⟩ = some (.int .i64 zn) ∧ W.cell? ⟨b2, o2 + j, none⟩ = some (.slice A5 dd.length c5))
          (first
            | exact ⟨p0, q0⟩
            | exact KW.out)
          (first
            | (go_at_call 22
               refine (MK.out _ (by first | exact Below.refl _ _ | exact (Below.refl _ _).drew)).mono ?_
               rintro e w2 ⟨A6, c6, rfl, ho, hb2⟩
               have hbw : Below wr.heap.size wr w2 := by first | exact hb2 | exact ⟨hb2.os, hb2.tape, hb2.output, hb2.size, hb2.block⟩
               have KW := hid (And.intro (cell_keep hbw p0) (cell_keep hbw q0))
               have OW := hid (And.intro ho hbw)
               clear ho hb2 hbw))
        all_goals
          have M2 := hid (M0.out.step OW.out.2)
          obtain ⟨r0, r1⟩ := KW.out
          have OB := hid (show Byt w2 (.slice A6 (unitBytes zn dd).length c6) (unitBytes zn dd) from Byt.of_own OW.out.1 rfl)
          have hba : Below w2.heap.size w2 (w2.alloc (.cells #[.int .i64 zn, .slice A5 dd.length c5, .int .i64 ((bytesOf (piecesTo ks ds j)).length : Int), .int .i64 (((bytesOf (piecesTo ks ds j)).length : Int) + ((unitBytes zn dd).length : Int))] 35)) := (Below.refl _ _).alloc (Nat.le_refl _) _
          have M3 := hid (M2.out.step hba)
          have B3 := hid (And.intro hba (OB.out.below hba))
          have FR := hid (show From (w2.alloc (.cells #[.int .i64 zn, .slice A5 dd.length c5, .int .i64 ((bytesOf (piecesTo ks ds j)).length : Int), .int .i64 (((bytesOf (piecesTo ks ds j)).length : Int) + ((unitBytes zn dd).length : Int))] 35)) 4 (.slice (some ⟨w2.heap.size, 0, none⟩) 1 1) 1 [.int .i64 zn, .slice A5 dd.length c5, .int .i64 ((bytesOf (piecesTo ks ds j)).length : Int), .int .i64 (((bytesOf (piecesTo ks ds j)).length : Int) + ((unitBytes zn dd).length : Int))] from blk_from4 (Blk.new _ _ _) rfl)
          have hcl : unitCells us ++ [.int .i64 zn, .slice A5 dd.length c5, .int .i64 ((bytesOf (piecesTo ks ds j)).length : Int), .int .i64 (((bytesOf (piecesTo ks ds j)).length : Int) + ((unitBytes zn dd).length : Int))] = unitCells (us ++ [(⟨zn, dd, (bytesOf (piecesTo ks ds j)).length, (bytesOf (piecesTo ks ds j)).length + (unitBytes zn dd).length⟩, .slice A5 dd.length c5)]) := by
            rw [← unitCells_snoc]
            rfl
          have CL := hid hcl
          have hul := M0.out.len
          have LB := hid (show us.length + 1 ≤ maxLen ∧ (us.length + 1) * 48 ≤ 140737488355328 ∧ w.heap.size ≤ (w2.alloc (.cells #[.int .i64 zn, .slice A5 dd.length c5, .int .i64 ((bytesOf (piecesTo ks ds j)).length : Int), .int .i64 (((bytesOf (piecesTo ks ds j)).length : Int) + ((unitBytes zn dd).length : Int))] 35)).heap.size by
            have h1 := M3.out.bel.size
            have := ZD.out
            unfold maxLen
            exact ⟨by omega, by omega, h1⟩)
          clear hba hcl hul p0 q0 KW
          go_wp2_with fail
          go_region_held3 (fun W => W.cell? ⟨b1, o1 + j, none⟩ = some (.int .i64 zn) ∧ W.cell? ⟨b2, o2 + j, none⟩ = some (.slice A5 dd.length c5))
            (first
              | exact ⟨r0, r1⟩
              | exact ⟨cell_keep B3.out.1 r0, cell_keep B3.out.1 r1⟩
              | exact ⟨cell_keep B3.out.1.drew r0, cell_keep B3.out.1.drew r1⟩
              | exact KW.out)
            (first
              | ((refine step_append_form _ (by rfl) (.tmp 39) (.tmp 56) _ (by rfl) w.heap.size 35 i2 (.agg #[.int .i64 0, .slice none 0 0, .int .i64 0, .int .i64 0]) 4 48 Tryd.underlying54 IR.out.1 IR.out.2.1 IR.out.2.2.1 IR.out.2.2.2 rfl (by omega) u9 us.length (unitCells us) (by rfl) (by first | exact M3.out.all | exact M3.out.all.drew) (.slice (some ⟨w2.heap.size, 0, none⟩) 1 1) 1 [.int .i64 zn, .slice A5 dd.length c5, .int .i64 ((bytesOf (piecesTo ks ds j)).length : Int), .int .i64 (((bytesOf (piecesTo ks ds j)).length : Int) + ((unitBytes zn dd).length : Int))] (by rfl) (by first | exact FR.out | exact FR.out.drew) (by simp [Value.oneCell']) (.inr (by omega)) LB.out.1 LB.out.2.1 (by first | exact LB.out.2.2) (us.length + 1) (unitCells (us ++ [(⟨zn, dd, (bytesOf (piecesTo ks ds j)).length, (bytesOf (piecesTo ks ds j)).length + (unitBytes zn dd).length⟩, .slice A5 dd.length c5)])) rfl CL.out ?_)
                 intro g cap w3 hown hgrow hat hlt1
                 have hn1 : u9.ownBlock ≠ some b1 := fun e => by have := (M3.out.all.lt _ e).1; omega
                 have hn2 : u9.ownBlock ≠ some b2 := fun e => by have := (M3.out.all.lt _ e).1; omega
                 have KW := hid (show w3.cell? ⟨b1, o1 + j, none⟩ = some (.int .i64 zn) ∧ w3.cell? ⟨b2, o2 + j, none⟩ = some (.slice A5 dd.length c5) from ⟨grown_cell hgrow (by first | exact cell_keep B3.out.1 r0 | exact cell_keep B3.out.1.drew r0) hn1, grown_cell hgrow (by first | exact cell_keep B3.out.1 r1 | exact cell_keep B3.out.1.drew r1) hn2⟩)
                 have O3 := hid (show w3.ownsRow w.heap.size 35 4 (.slice (some ⟨g, 0, none⟩) (us.length + 1) cap) (us.length + 1) (unitCells (us ++ [(⟨zn, dd, (bytesOf (piecesTo ks ds j)).length, (bytesOf (piecesTo ks ds j)).length + (unitBytes zn dd).length⟩, .slice A5 dd.length c5)])) ∧ (w2.alloc (.cells #[.int .i64 zn, .slice A5 dd.length c5, .int .i64 ((bytesOf (piecesTo ks ds j)).length : Int), .int .i64 (((bytesOf (piecesTo ks ds j)).length : Int) + ((unitBytes zn dd).length : Int))] 35)).grownBy w3 u9.ownBlock from ⟨hown, ⟨hgrow.os, hgrow.tape, hgrow.output, hgrow.size, hgrow.block⟩⟩)
                 clear hown hgrow hat hlt1 hn1 hn2))
          all_goals
            have out3 := own_grown M3.out.all M3.out.out (by decide) O3.out.2
            have ends3 := own_grown M3.out.all M3.out.ends (by decide) O3.out.2
            have b3 := own_grown M3.out.all (own_below OW.out.1 B3.out.1) (by decide) O3.out.2
            have bel3 := M3.out.bel.grown O3.out.2 M3.out.bel.size (fun k hk => (M3.out.all.lt k hk).1)
            have S3 := hid (And.intro out3 (And.intro ends3 (And.intro (Byt.of_own b3 rfl) bel3)))
            clear out3 ends3 b3 bel3
            have hN : (bytesOf (piecesTo ks ds j)).length + (unitBytes zn dd).length = (bytesOf (piecesTo ks ds j ++ [(zn, dd)])).length := by rw [bytesOf_snoc, List.length_append]
            have hLL : (bytesOf (piecesTo ks ds j)).map byteV ++ (unitBytes zn dd).map byteV = (bytesOf (piecesTo ks ds j ++ [(zn, dd)])).map byteV := by rw [bytesOf_snoc, List.map_append]
            have NL := hid (And.intro hN (And.intro hLL (show (bytesOf (piecesTo ks ds j)).length + (unitBytes zn dd).length ≤ 50000 by have := ZD.out; have := ZM.out; omega)))
            clear hN hLL
            have S3o := hid (And.intro O3.out.1 M3.out.len)
            have hEC : endCells (unitsAt 0 (piecesTo ks ds j)) ++ [.int .i64 ((bytesOf (piecesTo ks ds j ++ [(zn, dd)])).length : Int)] = endCells (unitsAt 0 (piecesTo ks ds j ++ [(zn, dd)])) := by
              rw [endCells_snoc, ← NL.out.1]
            have EC := hid (And.intro hEC (show (piecesTo ks ds j).length + 1 ≤ 1000 by have := ZD.out; omega))
            clear hEC
            go_wp2_with (first
              | (at_builtin
                 refine wpList_append_form _ rfl (.tmp 58) (.tmp 59) _ rfl w.heap.size 5 i0 (.int .u8 0) 1 1 Tryd.underlying23 IP.out.1 IP.out.2.1 IP.out.2.2.1 IP.out.2.2.2 rfl (by omega) (.slice A7 (bytesOf (piecesTo ks ds j)).length c7) (bytesOf (piecesTo ks ds j)).length ((bytesOf (piecesTo ks ds j)).map byteV) rfl (by first | exact S3.out.1 | exact S3.out.1.drew) (.slice A6 (unitBytes zn dd).length c6) (unitBytes zn dd).length ((unitBytes zn dd).map byteV) rfl (by first | exact S3.out.2.2.1.from_ | exact S3.out.2.2.1.drew.from_) (one_bytes _) (.inr ZM.out.2.2) (by have := NL.out.2.2; unfold maxLen; omega) (by have := NL.out.2.2; omega) (by first | exact S3.out.2.2.2.size) (bytesOf (piecesTo ks ds j ++ [(zn, dd)])).length ((bytesOf (piecesTo ks ds j ++ [(zn, dd)])).map byteV) NL.out.1 NL.out.2.1 ?_
                 intro g4 cap4 w4 hown4 hgrow4 hat4 hlt4
                 have hgw : w3.grownBy w4 (Value.slice A7 (bytesOf (piecesTo ks ds j)).length c7).ownBlock := ⟨hgrow4.os, hgrow4.tape, hgrow4.output, hgrow4.size, hgrow4.block⟩
                 have bel4 := S3.out.2.2.2.grown hgw S3.out.2.2.2.size (fun k hk => (S3.out.1.lt k hk).1)
                 have S4 := hid (And.intro (own_grown S3.out.1 S3.out.2.1 (by decide) hgw) (And.intro hown4 (And.intro (own_grown S3.out.1 S3o.out.1 (by decide) hgw) bel4)))
                 have F4 := hid (blk_from1 (Blk.new w4 3 #[.int .i64 ((bytesOf (piecesTo ks ds j ++ [(zn, dd)])).length : Int)]) 1)
                 clear hown4 hgrow4 hat4 hlt4 hgw bel4)
              | (at_builtin
                 refine wpList_append_form _ rfl (.tmp 61) (.tmp 64) _ rfl w.heap.size 3 i1 (.int .i64 0) 1 8 Tryd.underlying61 IQ.out.1 IQ.out.2.1 IQ.out.2.2.1 IQ.out.2.2.2 rfl (by omega) u8 (piecesTo ks ds j).length (endCells (unitsAt 0 (piecesTo ks ds j))) rfl (by exact S4.out.1.alloc _) (.slice (some ⟨w4.heap.size, 0, none⟩) 1 1) 1 [.int .i64 ((bytesOf (piecesTo ks ds j ++ [(zn, dd)])).length : Int)] rfl (by exact F4.out) (by simp [Value.oneCell']) (.inr (by omega)) (by have := EC.out.2; unfold maxLen; omega) (by have := EC.out.2; omega) (by have := S4.out.2.2.2.size; simp; omega) ((piecesTo ks ds j).length + 1) (endCells (unitsAt 0 (piecesTo ks ds j ++ [(zn, dd)]))) rfl EC.out.1 ?_
                 intro g5 cap5 w5 hown5 hgrow5 hat5 hlt5
                 have ea := S4.out.1.alloc (.cells #[.int .i64 ((bytesOf (piecesTo ks ds j ++ [(zn, dd)])).length : Int)] 3)
                 have oa := S4.out.2.1.alloc (.cells #[.int .i64 ((bytesOf (piecesTo ks ds j ++ [(zn, dd)])).length : Int)] 3)
                 have aa := S4.out.2.2.1.alloc (.cells #[.int .i64 ((bytesOf (piecesTo ks ds j ++ [(zn, dd)])).length : Int)] 3)
                 have ba := S4.out.2.2.2.alloc S4.out.2.2.2.size (.cells #[.int .i64 ((bytesOf (piecesTo ks ds j ++ [(zn, dd)])).length : Int)] 3)
                 have S5 := hid (And.intro hown5 (And.intro (own_grown ea oa (by decide) hgrow5) (And.intro (own_grown ea aa (by decide) hgrow5) (ba.grown hgrow5 ba.size (fun k hk => (ea.lt k hk).1)))))
                 clear hown5 hgrow5 hat5 hlt5 ea oa aa ba))
            have hj200 : j ≤ 200 := by have := ZD.out; omega
            obtain ⟨hz, hd, hjk, _⟩ := ZD.out
            go_roundg (gk - 1)
            case measure => omega
            case rel =>
              refine ⟨j + 1, us ++ [(⟨zn, dd, (bytesOf (piecesTo ks ds j)).length, (bytesOf (piecesTo ks ds j)).length + (unitBytes zn dd).length⟩, .slice A5 dd.length c5)], by omega, by rw [IntWalk.wrap64_in _ (by constructor <;> omega)]; rfl, ?_⟩
              rw [ZM.out.1]
              refine ⟨S5.out.2.2.2, S5.out.2.1, by simpa using S5.out.1, by simpa using S5.out.2.2.1, ?_, ?_⟩
              · rw [List.map_append, M3.out.fsts, unitsAt_snoc]
                simp
              · intro p hp
                rcases List.mem_append.1 hp with hp | hp
                · exact M3.out.data p hp
                · obtain rfl := List.mem_singleton.1 hp
                  exact VV.out.2.from_
      · have hno : piecesTo ks ds (j + 1) = piecesTo ks ds j := piecesTo_no ZD.out.1 ZD.out.2.1 hmk
        have MK : Hid (∀ W, Below wr.heap.size wr W → Calls Tryd.prog 22 #[.int .i64 z, .slice A5 dd.length c5] W fun e w' => ∃ A6 c6, e = .returned (.tuple #[.slice A6 0 c6, .iface 29 (.int .i64 (makeNo z dd.length))]) ∧ Below W.heap.size W w') := fun W hb => (make_any z _ dd W (VV.out.1.below hb)).mono fun e w' h => by
          obtain ⟨bv, h1, h2, h3⟩ := h
          rw [mkU_no hmk] at h2
          obtain ⟨A6, c6, rfl⟩ := own_slice h2
          refine ⟨A6, c6, ?_, h3⟩
          rw [h1]
          unfold codeV
          rw [if_neg hmk]
          rfl
        have ZM := hid hno
        clear hmk hno
        go_wp2_with fail
        go_region_held3 (fun W => W.cell? ⟨b1, o1 + j, none⟩ = some (.int .i64 z) ∧ W.cell? ⟨b2, o2 + j, none⟩ = some (.slice A5 dd.length c5))
          (first
            | exact ⟨p0, q0⟩
            | exact KW.out)
          (first
            | (go_at_call 22
               refine (MK.out _ (by first | exact Below.refl _ _ | exact (Below.refl _ _).drew)).mono ?_
               rintro e w2 ⟨A6, c6, rfl, hb2⟩
               have hbw : Below wr.heap.size wr w2 := by first | exact hb2 | exact ⟨hb2.os, hb2.tape, hb2.output, hb2.size, hb2.block⟩
               have KW := hid (And.intro (cell_keep hbw p0) (cell_keep hbw q0))
               have OW := hid hbw
               clear hb2 hbw))
        all_goals
          go_wp2_with fail
          have hj200 : j ≤ 200 := by have := ZD.out; omega
          obtain ⟨hz, hd, hjk, _⟩ := ZD.out
          go_roundg (gk - 1)
          case measure => omega
          case rel =>
            refine ⟨j + 1, us, by omega, by rw [IntWalk.wrap64_in _ (by constructor <;> omega)]; rfl, ?_⟩
            rw [ZM.out]
            exact M0.out.step OW.out
    · have hjm : j = min ks.length ds.length := by omega
      have M0 := hid hM
      have hn : (ks.length ≤ j ∧ decide ((j : Int) < (ks.length : Int)) = false) ∨ (j < ks.length ∧ ds.length ≤ j ∧ decide ((j : Int) < (ks.length : Int)) = true ∧ decide ((j : Int) < (ds.length : Int)) = false) := by simp; omega
      have JM := hid hjm
      clear hM hjm hlt hj hl1 hl2 hl3
      rcases hn with ⟨hn0, hn⟩ | ⟨hn0, hn1, hn, hn2⟩
      all_goals
        go_wp2_with fail
        go_ret3
        refine ⟨_, _, _, us, rfl, ?_⟩
        rw [← JM.out]
        exact M0.out
end Go.Proofs.YtabklmkdneoaaaaDoor
