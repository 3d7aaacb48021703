/- Parts: XSPairsW. -/
import Derived.Test.YtkkgpdejmcpcpaaDoorM28
/- SyntaxPairs: the walk. -/
namespace Go.Proofs.YtkkgpdejmcpcpaaDoor
open Go.RowKit

theorem codeV_iface {c : Int} (h : c ≠ 0) : codeV c = .iface 33 (.int .i64 c) := by unfold codeV; rw [if_neg h]
theorem hpack_bad {no k : Int} {bs : List UInt8} {w w' : World} {e : Ending} (h : HPackRes no k bs w e w') (hn : no ≠ 0) : ∃ A c, e = .returned (.tuple #[.agg #[.int .i64 0, .slice A 0 c], .iface 33 (.int .i64 no)]) ∧ Byt w' (.slice A 0 c) [] ∧ Below w.heap.size w w' := by
  obtain ⟨v, h1, h2, h3⟩ := h
  rw [if_neg hn, codeV_iface hn] at h1
  rw [if_neg hn] at h2
  obtain ⟨A, c, rfl, _⟩ := h2.form
  exact ⟨A, c, h1, h2, h3⟩
theorem hpack_good {k : Int} {bs : List UInt8} {w w' : World} {e : Ending} (h : HPackRes 0 k bs w e w') : ∃ A c, e = .returned (.tuple #[.agg #[.int .i64 k, .slice A bs.length c], .nilIface]) ∧ Byt w' (.slice A bs.length c) bs ∧ Below w.heap.size w w' := by
  obtain ⟨v, h1, h2, h3⟩ := h
  rw [if_pos rfl] at h1 h2
  obtain ⟨A, c, rfl, _⟩ := h2.form
  exact ⟨A, c, h1, h2, h3⟩
theorem hread_bad {no k q : Int} {bs : List UInt8} {w w' : World} {e : Ending} (h : HReadRes no k q bs w e w') (hn : no ≠ 0) : ∃ A c, e = .returned (.tuple #[.agg #[.int .i64 0, .int .i64 0, .slice A 0 c], .iface 33 (.int .i64 no)]) ∧ Byt w' (.slice A 0 c) [] ∧ Below w.heap.size w w' := by
  obtain ⟨v, h1, h2, h3⟩ := h
  rw [if_neg hn, if_neg hn, codeV_iface hn] at h1
  rw [if_neg hn] at h2
  obtain ⟨A, c, rfl, _⟩ := h2.form
  exact ⟨A, c, h1, h2, h3⟩
theorem hread_good {k q : Int} {bs : List UInt8} {w w' : World} {e : Ending} (h : HReadRes 0 k q bs w e w') : ∃ A c, e = .returned (.tuple #[.agg #[.int .i64 k, .int .i64 q, .slice A bs.length c], .nilIface]) ∧ Byt w' (.slice A bs.length c) bs ∧ Below w.heap.size w w' := by
  obtain ⟨v, h1, h2, h3⟩ := h
  rw [if_pos rfl, if_pos rfl] at h1
  rw [if_pos rfl] at h2
  obtain ⟨A, c, rfl, _⟩ := h2.form
  exact ⟨A, c, h1, h2, h3⟩
/-- The last part: Read of the coded frame, Pack of what is read. -/
def PairsEnd : Prop := True
set_option maxRecDepth 100000 in
set_option maxHeartbeats 8000000 in
theorem spairs_walk (k q : Int) (x : Value) (bs : List UInt8) (kc : Int) (xc : Value) (bc : List UInt8) (w : World) (hx : Byt w x bs) (_ : bs.length ≤ maxLen) (hc : Byt w xc bc) (_ : bc.length ≤ maxLen) (hg : ErrT w) :
    Calls Tryd.prog 6 #[.agg #[.int .i64 k, .int .i64 q, x], .agg #[.int .i64 kc, xc]] w fun e w' => e = .returned (.bool true) ∧ Below w.heap.size w w' := by
  obtain ⟨A, c, rfl, _⟩ := hx.form
  obtain ⟨A2, c2, rfl, _⟩ := hc.form
  have HG := hid (And.intro hg hg.lt)
  have hb2 : Below w.heap.size w ((w.alloc (.cells #[.int .i64 k, .int .i64 q, .slice A bs.length c] 24)).alloc (.cells #[.int .i64 kc, .slice A2 bc.length c2] 26)) := ((Below.refl _ _).alloc (Nat.le_refl _) _).alloc (by simp) _
  have H0 := hid (show HC w k q (.slice A bs.length c) bs kc (.slice A2 bc.length c2) bc ((w.alloc (.cells #[.int .i64 k, .int .i64 q, .slice A bs.length c] 24)).alloc (.cells #[.int .i64 kc, .slice A2 bc.length c2] 26)) from
    ⟨hb2, (Blk.new _ _ _).alloc _, Blk.newAt' _ _ _ (by simp), hx.below hb2, hc.below hb2⟩)
  clear hb2 hx hc hg
  have hbig : (decide ((70000 : Int) < (bs.length : Int)) = true ∧ decide (70000 < bs.length) = true) ∨ (decide ((70000 : Int) < (bs.length : Int)) = false ∧ decide (70000 < bs.length) = false ∧ ((decide ((70000 : Int) < (bc.length : Int)) = true ∧ decide (70000 < bc.length) = true) ∨ (decide ((70000 : Int) < (bc.length : Int)) = false ∧ decide (70000 < bc.length) = false ∧ bs.length ≤ 70000 ∧ bc.length ≤ 70000))) := by
    by_cases h1 : 70000 < bs.length
    · exact .inl ⟨by simp; omega, by simp; omega⟩
    · by_cases h2 : 70000 < bc.length
      · exact .inr ⟨by simp; omega, by simp; omega, .inl ⟨by simp; omega, by simp; omega⟩⟩
      · exact .inr ⟨by simp; omega, by simp; omega, .inr ⟨by simp; omega, by simp; omega, by omega, by omega⟩⟩
  rcases hbig with ⟨d1, d2⟩ | ⟨d1, d2, ⟨d3, d4⟩ | ⟨d3, d4, hl1, hl2⟩⟩
  · go_enter Tryd.func6, Tryd.ntmps6
    go_wp2_with fail
    generalize ((w.alloc _).alloc _ : World) = w1 at *
    refine (first20 _ (by exact HG.out.1.below H0.out.bel HG.out.2)).mono ?_
    rintro e w2 ⟨rfl, hb⟩
    have H1 := hid (H0.out.below hb)
    obtain ⟨⟨c0, c1, cc⟩, c3, c4⟩ := H1.out.cells
    clear hb
    go_wp2_with fail
    refine (first20 _ (by exact HG.out.1.below H1.out.bel HG.out.2)).mono ?_
    rintro e w3 ⟨rfl, hb⟩
    have H2 := hid (H1.out.below hb)
    clear hb c0 c1 cc c3 c4
    go_wp2_with fail
    go_ret
    exact ⟨rfl, H2.out.bel⟩
  · go_enter Tryd.func6, Tryd.ntmps6
    go_wp2_with fail
    generalize ((w.alloc _).alloc _ : World) = w1 at *
    refine (first20 _ (by exact HG.out.1.below H0.out.bel HG.out.2)).mono ?_
    rintro e w2 ⟨rfl, hb⟩
    have H1 := hid (H0.out.below hb)
    obtain ⟨⟨c0, c1, cc⟩, c3, c4⟩ := H1.out.cells
    clear hb
    go_wp2_with fail
    refine (first20 _ (by exact HG.out.1.below H1.out.bel HG.out.2)).mono ?_
    rintro e w3 ⟨rfl, hb⟩
    have H2 := hid (H1.out.below hb)
    clear hb c0 c1 cc c3 c4
    go_wp2_with fail
    go_ret
    exact ⟨rfl, H2.out.bel⟩
  · have HP := hid (fun W (h : Byt W (.slice A bs.length c) bs) => pack_any k q _ bs W h (by omega))
    have HR := hid (fun W (h : Byt W (.slice A2 bc.length c2) bc) => read_any kc _ bc W h (by omega))
    have hno : packNo k q bs.length = 0 ∨ packNo k q bs.length ≠ 0 := by omega
    have hno2 : readNo kc bc = 0 ∨ readNo kc bc ≠ 0 := by omega
    have HN2 := hid hno2
    clear hno2
    rcases hno with hno | hno
    · have RP := hid (And.intro (read_pack hno) (pack_zero hno))
      rw [hno] at HP
      clear hno
      go_enter Tryd.func6, Tryd.ntmps6
      go_wp2_with fail
      generalize ((w.alloc _).alloc _ : World) = w1 at *
      refine (first20 _ (by exact HG.out.1.below H0.out.bel HG.out.2)).mono ?_
      rintro e w2 ⟨rfl, hb⟩
      have H1 := hid (H0.out.below hb)
      obtain ⟨⟨c0, c1, cc⟩, c3, c4⟩ := H1.out.cells
      clear hb
      go_wp2_with fail
      refine (HP.out _ H1.out.y2).mono ?_
      rintro e w3 hres
      obtain ⟨A3, c5, rfl, hy3, hb⟩ := hpack_good hres
      clear hres c0 c1 cc c3 c4
      obtain ⟨pb, hpb⟩ : ∃ pb, pb = packB k q bs := ⟨_, rfl⟩
      rw [← hpb] at hy3 RP
      rw [← hpb]
      clear hpb
      have H3 := hid (And.intro ((H1.out.below hb).alloc (.cells #[.int .i64 k, .slice A3 pb.length c5] 26)) (And.intro (hy3.alloc (.cells #[.int .i64 k, .slice A3 pb.length c5] 26)) (Blk.new w3 26 #[.int .i64 k, .slice A3 pb.length c5])))
      clear hb hy3
      go_wp2_with fail
      obtain ⟨w4, hw4⟩ : ∃ w4, w4 = w3.alloc (.cells #[.int .i64 k, .slice A3 pb.length c5] 26) := ⟨_, rfl⟩
      rw [← hw4] at H3
      rw [← hw4]
      have hlp : pb.length ≤ 65536 := RP.out.1.2.2.2
      refine (read_any k _ pb _ (by exact H3.out.2.1) (by omega)).mono ?_
      rintro e w5 hres
      rw [RP.out.1.1, RP.out.1.2.1, RP.out.1.2.2.1] at hres
      obtain ⟨A6, c6, rfl, hy6, hb⟩ := hread_good hres
      clear hres
      have H5 := hid (And.intro ((H3.out.1.below hb).alloc (.cells #[.int .i64 k, .int .i64 q, .slice A6 bs.length c6] 24)) (And.intro ((H3.out.2.1.below hb).alloc (.cells #[.int .i64 k, .int .i64 q, .slice A6 bs.length c6] 24)) (And.intro ((H3.out.2.2.below hb H3.out.2.2.lt).alloc (.cells #[.int .i64 k, .int .i64 q, .slice A6 bs.length c6] 24)) (And.intro (hy6.alloc (.cells #[.int .i64 k, .int .i64 q, .slice A6 bs.length c6] 24)) (Blk.new w5 24 #[.int .i64 k, .int .i64 q, .slice A6 bs.length c6])))))
      have a0 : (w5.alloc (.cells #[.int .i64 k, .int .i64 q, .slice A6 bs.length c6] 24)).cell? ⟨w3.heap.size, 0, none⟩ = some (.int .i64 k) := by simpa using H5.out.2.2.1.cell 0
      have a1 : (w5.alloc (.cells #[.int .i64 k, .int .i64 q, .slice A6 bs.length c6] 24)).cell? ⟨w3.heap.size, 1, none⟩ = some (.slice A3 pb.length c5) := by simpa using H5.out.2.2.1.cell 1
      clear hb hy6 hw4
      go_wp2_with fail
      clear a0 a1
      generalize w5.alloc (.cells #[.int .i64 k, .int .i64 q, .slice A6 bs.length c6] 24) = w6 at *
      obtain ⟨n, hn⟩ : ∃ n : Nat, k = (n : Int) := ⟨k.toNat, by have := RP.out.2.1; omega⟩
      have hmk := made_unit n (.slice A3 pb.length c5) pb w6 (by exact H5.out.2.1) (by have := RP.out.2.1; omega) (by have := RP.out.2.1; omega) hlp
      rw [← hn] at hmk
      have hul : (unitBytes n pb).length = pb.length + 8 := by
        unfold unitBytes unitHd
        rw [if_neg (by have := RP.out.2.1; omega)]
        have ht : (three pb.length).length = 3 := rfl
        have hq : ∀ n, (quad n).length = 4 := fun _ => rfl
        simp [ht, hq]
        try omega
      refine hmk.mono ?_
      rintro e w7 ⟨g7, c7, rfl, _, hb⟩
      rw [hul]
      clear hmk hul hn
      have H7 := hid (And.intro (H5.out.1.below hb) (And.intro (H5.out.2.1.below hb) (And.intro (H5.out.2.2.1.below hb H5.out.2.2.1.lt) (And.intro (H5.out.2.2.2.1.below hb) (H5.out.2.2.2.2.below hb H5.out.2.2.2.2.lt)))))
      obtain ⟨⟨c0, c1, cc⟩, c3, c4⟩ := H7.out.1.cells
      have a0 : w7.cell? ⟨w3.heap.size, 0, none⟩ = some (.int .i64 k) := by simpa using H7.out.2.2.1.cell 0
      have a1 : w7.cell? ⟨w3.heap.size, 1, none⟩ = some (.slice A3 pb.length c5) := by simpa using H7.out.2.2.1.cell 1
      have g0 : w7.cell? ⟨w5.heap.size, 0, none⟩ = some (.int .i64 k) := by simpa using H7.out.2.2.2.2.cell 0
      have g1 : w7.cell? ⟨w5.heap.size, 1, none⟩ = some (.int .i64 q) := by simpa using H7.out.2.2.2.2.cell 1
      have g2 : w7.cell? ⟨w5.heap.size, 2, none⟩ = some (.slice A6 bs.length c6) := by simpa using H7.out.2.2.2.2.cell 2
      clear hb
      go_wp2_with fail
      refine (bytes_same (bs := bs) (H7.out.2.2.2.1.from_) (H7.out.1.y2.from_)).mono ?_
      rintro e w8 ⟨rfl, rfl⟩
      have hci := cost_any k (.slice A3 pb.length c5) pb w8 (by exact H7.out.2.1) (by omega)
      have HCI := hid hci
      clear hci
      go_wp2_with fail
      refine HCI.out.mono ?_
      rintro e w9 ⟨rfl, hb⟩
      have H9 := hid (H7.out.1.below hb)
      have hcmp : (((pb.length + 8 : Nat) : Int) != (pb.length : Int) + 8) = false := by simp
      clear hb HCI c0 c1 cc c3 c4 a0 a1 g0 g1 g2
      rcases HN2.out with hno2 | hno2
      · have PR := hid (pack_read hno2)
        rw [hno2] at HR
        obtain ⟨⟨c0, c1, cc⟩, c3, c4⟩ := H9.out.cells
        clear hno2
        go_wp2_with fail
        refine (HR.out _ H9.out.y3).mono ?_
        rintro e wa hres
        obtain ⟨Aa, ca, rfl, hya, hb⟩ := hread_good hres
        clear hres c0 c1 cc c3 c4
        obtain ⟨rq, hrq⟩ : ∃ q, q = readQ kc bc := ⟨_, rfl⟩
        obtain ⟨rb, hrb⟩ : ∃ q, q = readB kc bc := ⟨_, rfl⟩
        rw [← hrq, ← hrb] at PR
        rw [← hrb] at hya
        rw [← hrq, ← hrb]
        clear hrq hrb
        have Ha := hid (And.intro ((H9.out.below hb).alloc (.cells #[.int .i64 kc, .int .i64 rq, .slice Aa rb.length ca] 24)) (hya.alloc (.cells #[.int .i64 kc, .int .i64 rq, .slice Aa rb.length ca] 24)))
        clear hb hya
        go_wp2_with fail
        generalize wa.alloc (.cells #[.int .i64 kc, .int .i64 rq, .slice Aa rb.length ca] 24) = wb at *
        have hpk := pack_any kc rq (.slice Aa rb.length ca) rb wb (by exact Ha.out.2) (by have := (pack_zero PR.out.1).2.2.2; omega)
        rw [PR.out.1, PR.out.2.1] at hpk
        refine hpk.mono ?_
        rintro e wd hres
        obtain ⟨Ad, cd, rfl, hyd, hb⟩ := hpack_good hres
        clear hres hpk
        have Hd := hid (And.intro ((Ha.out.1.below hb).alloc (.cells #[.int .i64 kc, .slice Ad bc.length cd] 26)) (And.intro (hyd.alloc (.cells #[.int .i64 kc, .slice Ad bc.length cd] 26)) (Blk.new wd 26 #[.int .i64 kc, .slice Ad bc.length cd])))
        clear hb hyd
        go_wp2_with fail
        obtain ⟨we, hwe⟩ : ∃ we, we = wd.alloc (.cells #[.int .i64 kc, .slice Ad bc.length cd] 26) := ⟨_, rfl⟩
        rw [← hwe] at Hd
        rw [← hwe]
        clear hwe
        refine (first20 _ (by exact HG.out.1.below Hd.out.1.bel HG.out.2)).mono ?_
        rintro e wf ⟨rfl, hb⟩
        have Hf := hid (And.intro (Hd.out.1.below hb) (And.intro (Hd.out.2.1.below hb) (Hd.out.2.2.below hb Hd.out.2.2.lt)))
        obtain ⟨⟨c0, c1, cc⟩, c3, c4⟩ := Hf.out.1.cells
        have a0 : wf.cell? ⟨wd.heap.size, 0, none⟩ = some (.int .i64 kc) := by simpa using Hf.out.2.2.cell 0
        have a1 : wf.cell? ⟨wd.heap.size, 1, none⟩ = some (.slice Ad bc.length cd) := by simpa using Hf.out.2.2.cell 1
        clear hb
        go_wp2_with fail
        refine (coded_same kc _ _ bc _ (by exact Hf.out.2.1) (by exact Hf.out.1.y3)).mono ?_
        rintro e wg ⟨rfl, hb⟩
        have Hg := hid (Hf.out.1.below hb)
        clear hb c0 c1 cc c3 c4 a0 a1
        go_wp2_with fail
        go_ret
        exact ⟨rfl, Hg.out.bel⟩
      · obtain ⟨⟨c0, c1, cc⟩, c3, c4⟩ := H9.out.cells
        have NB := hid hno2
        clear hno2
        go_wp2_with fail
        refine (HR.out _ H9.out.y3).mono ?_
        rintro e wa hres
        obtain ⟨Aa, ca, rfl, hya, hb⟩ := hread_bad hres NB.out
        clear hres c0 c1 cc c3 c4
        have Ha := hid ((H9.out.below hb).alloc (.cells #[.int .i64 0, .int .i64 0, .slice Aa 0 ca] 24))
        clear hb hya
        go_wp2_with fail
        generalize wa.alloc (.cells #[.int .i64 0, .int .i64 0, .slice Aa 0 ca] 24) = wb at *
        refine (first20 _ (by exact HG.out.1.below Ha.out.bel HG.out.2)).mono ?_
        rintro e wf ⟨rfl, hb⟩
        have Hf := hid (Ha.out.below hb)
        clear hb
        go_wp2_with fail
        go_ret
        exact ⟨rfl, Hf.out.bel⟩
    · have NO := hid hno
      clear hno
      go_enter Tryd.func6, Tryd.ntmps6
      go_wp2_with fail
      generalize ((w.alloc _).alloc _ : World) = w1 at *
      refine (first20 _ (by exact HG.out.1.below H0.out.bel HG.out.2)).mono ?_
      rintro e w2 ⟨rfl, hb⟩
      have H1 := hid (H0.out.below hb)
      obtain ⟨⟨c0, c1, cc⟩, c3, c4⟩ := H1.out.cells
      clear hb
      go_wp2_with fail
      refine (HP.out _ H1.out.y2).mono ?_
      rintro e w3 hres
      obtain ⟨A3, c5, rfl, hy3, hb⟩ := hpack_bad hres NO.out
      clear hres c0 c1 cc c3 c4
      generalize packNo k q bs.length = no at *
      have H3 := hid ((H1.out.below hb).alloc (.cells #[.int .i64 0, .slice A3 0 c5] 26))
      clear hb hy3
      rcases HN2.out with hno2 | hno2
      · have PR := hid (pack_read hno2)
        rw [hno2] at HR
        obtain ⟨⟨c0, c1, cc⟩, c3, c4⟩ := H3.out.cells
        clear hno2
        go_wp2_with fail
        refine (HR.out _ H3.out.y3).mono ?_
        rintro e wa hres
        obtain ⟨Aa, ca, rfl, hya, hb⟩ := hread_good hres
        clear hres c0 c1 cc c3 c4
        obtain ⟨rq, hrq⟩ : ∃ q, q = readQ kc bc := ⟨_, rfl⟩
        obtain ⟨rb, hrb⟩ : ∃ q, q = readB kc bc := ⟨_, rfl⟩
        rw [← hrq, ← hrb] at PR
        rw [← hrb] at hya
        rw [← hrq, ← hrb]
        clear hrq hrb
        have Ha := hid (And.intro ((H3.out.below hb).alloc (.cells #[.int .i64 kc, .int .i64 rq, .slice Aa rb.length ca] 24)) (hya.alloc (.cells #[.int .i64 kc, .int .i64 rq, .slice Aa rb.length ca] 24)))
        clear hb hya
        go_wp2_with fail
        generalize wa.alloc (.cells #[.int .i64 kc, .int .i64 rq, .slice Aa rb.length ca] 24) = wb at *
        have hpk := pack_any kc rq (.slice Aa rb.length ca) rb wb (by exact Ha.out.2) (by have := (pack_zero PR.out.1).2.2.2; omega)
        rw [PR.out.1, PR.out.2.1] at hpk
        refine hpk.mono ?_
        rintro e wd hres
        obtain ⟨Ad, cd, rfl, hyd, hb⟩ := hpack_good hres
        clear hres hpk
        have Hd := hid (And.intro ((Ha.out.1.below hb).alloc (.cells #[.int .i64 kc, .slice Ad bc.length cd] 26)) (And.intro (hyd.alloc (.cells #[.int .i64 kc, .slice Ad bc.length cd] 26)) (Blk.new wd 26 #[.int .i64 kc, .slice Ad bc.length cd])))
        clear hb hyd
        go_wp2_with fail
        obtain ⟨we, hwe⟩ : ∃ we, we = wd.alloc (.cells #[.int .i64 kc, .slice Ad bc.length cd] 26) := ⟨_, rfl⟩
        rw [← hwe] at Hd
        rw [← hwe]
        clear hwe
        refine (first20 _ (by exact HG.out.1.below Hd.out.1.bel HG.out.2)).mono ?_
        rintro e wf ⟨rfl, hb⟩
        have Hf := hid (And.intro (Hd.out.1.below hb) (And.intro (Hd.out.2.1.below hb) (Hd.out.2.2.below hb Hd.out.2.2.lt)))
        obtain ⟨⟨c0, c1, cc⟩, c3, c4⟩ := Hf.out.1.cells
        have a0 : wf.cell? ⟨wd.heap.size, 0, none⟩ = some (.int .i64 kc) := by simpa using Hf.out.2.2.cell 0
        have a1 : wf.cell? ⟨wd.heap.size, 1, none⟩ = some (.slice Ad bc.length cd) := by simpa using Hf.out.2.2.cell 1
        clear hb
        go_wp2_with fail
        refine (coded_same kc _ _ bc _ (by exact Hf.out.2.1) (by exact Hf.out.1.y3)).mono ?_
        rintro e wg ⟨rfl, hb⟩
        have Hg := hid (Hf.out.1.below hb)
        clear hb c0 c1 cc c3 c4 a0 a1
        go_wp2_with fail
        go_ret
        exact ⟨rfl, Hg.out.bel⟩
      · obtain ⟨⟨c0, c1, cc⟩, c3, c4⟩ := H3.out.cells
        have NB := hid hno2
        clear hno2
        go_wp2_with fail
        refine (HR.out _ H3.out.y3).mono ?_
        rintro e wa hres
        obtain ⟨Aa, ca, rfl, hya, hb⟩ := hread_bad hres NB.out
        clear hres c0 c1 cc c3 c4
        have Ha := hid ((H3.out.below hb).alloc (.cells #[.int .i64 0, .int .i64 0, .slice Aa 0 ca] 24))
        clear hb hya
        go_wp2_with fail
        generalize wa.alloc (.cells #[.int .i64 0, .int .i64 0, .slice Aa 0 ca] 24) = wb at *
        refine (first20 _ (by exact HG.out.1.below Ha.out.bel HG.out.2)).mono ?_
        rintro e wf ⟨rfl, hb⟩
        have Hf := hid (Ha.out.below hb)
        clear hb
        go_wp2_with fail
        go_ret
        exact ⟨rfl, Hf.out.bel⟩
end Go.Proofs.YtkkgpdejmcpcpaaDoor

