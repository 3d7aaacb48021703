/- CoefWrites: the walk. -/
import Derived.Test.YtnlfnknkiggejaaDoorOwnC
import Derived.Test.YtnlfnknkiggejaaDoorCoefD
import Derived.Test.YtnlfnknkiggejaaDoorFew
import Derived.Deep.RegionHeld3
namespace Go.Proofs.YtnlfnknkiggejaaDoor
open Go.RowKit

theorem ok_xw_new : XWr.new.Ok 4 := ⟨pok_first, by decide, by decide, by decide⟩
theorem simw_new : WrSim Wr.new XWr.new := ⟨rfl, ⟨rfl, rfl⟩, pok_first, by decide, by decide, by decide⟩
theorem WrSim.bytes {s : Wr} {t : XWr} (h : WrSim s t) : t.e.bytes = s.e.bytes := by
  show trim t.e.L = trim _
  rw [h.e.L]
theorem xw_end (b eb : Nat) (w : World) (F : Nat → Prop) (s : XWr) (h : AtXw b eb w F s) :
    Calls Tryd.prog 24 #[.pointer (some ⟨eb, 0, none⟩)] w fun y w' => ∃ g cap, y = .returned (.slice (some ⟨g, 0, none⟩) s.e.bytes.length cap) ∧ w'.ownsRow w.heap.size 5 1 (.slice (some ⟨g, 0, none⟩) s.e.bytes.length cap) s.e.bytes.length (s.e.bytes.map byteV) ∧ Below w.heap.size w w' := by
  obtain ⟨v, h1, _⟩ := h
  exact renc_end eb v s.e w h1.enc
theorem valid_of {l : List Int} (h : checkNo l = 0) : ∃ sd base, Sized l sd base ∧ l.any lvOut = false := by
  unfold checkNo at h
  by_cases h1 : l.length ≠ 16 ∧ l.length ≠ 64
  · rw [if_pos h1] at h; omega
  · rw [if_neg h1] at h
    have h2 : l.any lvOut = false := by
      cases hq : l.any lvOut
      · rfl
      · rw [hq] at h; exact absurd h (by decide)
    by_cases h3 : l.length = 16
    · exact ⟨4, 14, .inl ⟨rfl, rfl, h3⟩, h2⟩
    · exact ⟨8, 39, .inr ⟨rfl, rfl, by omega⟩, h2⟩
theorem in_of {l : List Int} (h : l.any lvOut = false) : ∀ v ∈ l, -16320 ≤ v ∧ v ≤ 16320 := by
  intro v hv
  apply lvOut_false
  rw [Bool.eq_false_iff]
  intro h2
  have := List.any_eq_true.2 ⟨v, hv, h2⟩
  rw [h] at this
  exact Bool.noConfusion this
theorem From.belowF {w w' : World} {size m : Nat} {x : Value} {news : List Value} (h : From w size x m news) (hb : Below w.heap.size w w') : From w' size x m news := by
  obtain ⟨A, c, h1, h2, h3⟩ := h
  refine ⟨A, c, h1, h2, fun h0 => ?_⟩
  obtain ⟨ad, h4, h5⟩ := h3 h0
  refine ⟨ad, h4, fun j u hu => ?_⟩
  have := h5 j u hu
  rw [hb.cell (World.block_lt_of_cell? _ _ this)]
  exact this
theorem nums_nil (W : World) : Nums W (.slice none 0 0) [] := ⟨none, 0, rfl, Nat.le_refl _, fun h => absurd rfl h⟩
/-- A writer tells what it was told. -/
theorem wr_told {σ : Type} {M : Mach σ} (hE : Echo M) {l : List Int} {sd base : Nat} (hsd : Sized l sd base) (hin : l.any lvOut = false) (s : σ) : (M.run (squareA base (ordOf sd) l) s).1 = (none, l) ∧ M.run (rsquareA base (ordOf sd) l) s = M.run (squareA base (ordOf sd) l) s := by
  obtain ⟨ho, _, hn⟩ := ord_sized hsd
  refine ⟨?_, (echo_square hE base (ordOf sd) l (countL_ord ho) s).symm⟩
  rw [hE.run]
  exact say_square base (ordOf sd) l ho (in_of hin) hn
theorem noff_arg {w W : World} {x : Value} {l : List Int} {F : Nat → Prop} (hn : Nums w x l) (h0 : l ≠ []) (hb : Below w.heap.size w W) (hF : ∀ k, F k → w.heap.size ≤ k) : NOff x l W F := by
  have hn2 := hn.below hb
  obtain ⟨A, c, rfl, _, h3⟩ := hn
  obtain ⟨b, off, rfl, hlt, _⟩ := h3 h0
  have e : ∀ k, (Value.slice (some ⟨b, off, none⟩) l.length c).ownBlock = some k → k = b := fun k hk => by
    have : b = k := by simpa [Value.ownBlock] using hk
    exact this.symm
  exact ⟨hn2, fun k hk hFk => by have := e k hk; have := hF k hFk; omega, fun k hk => by have := e k hk; have := hb.size; omega⟩
set_option maxRecDepth 100000 in
set_option maxHeartbeats 2000000 in
theorem rcode_bad (p x : Value) (l : List Int) (w : World) (hx : Nums w x l) (hl : l.length ≤ 1000000) (hc : checkNo l ≠ 0) :
    Calls Tryd.prog 19 #[p, x] w fun e w' => e = .returned (.tuple #[.slice none 0 0, .agg #[.int .i64 (checkNo l), .slice none 0 0]]) ∧ Below w.heap.size w w' := by
  obtain ⟨A, cp, rfl, _⟩ := hx.form
  have HWI := hid (fun W (h : Nums W (.slice A l.length cp) l) => within_any _ l (-16320) 16320 W h (by omega))
  rw [within_out l] at HWI
  have hb1 : Below w.heap.size w (w.alloc (.cells #[.int .i64 0, .slice none 0 0] 38)) := (Below.refl _ _).alloc (Nat.le_refl _) _
  have XB := hid (And.intro (hx.below hb1) hb1)
  have P0 := hid (Blk.new w 38 #[.int .i64 0, .slice none 0 0])
  clear hx hb1
  have hcase : (((l.length : Int) == 64) = false ∧ ((l.length : Int) != 16) = true ∧ checkNo l = 14) ∨ (((l.length : Int) == 64) = false ∧ ((l.length : Int) != 16) = false ∧ l.any lvOut = true ∧ checkNo l = 3) ∨ (((l.length : Int) == 64) = true ∧ ((l.length : Int) != 64) = false ∧ l.any lvOut = true ∧ checkNo l = 3) := by
    have hq : l.any lvOut = true ∨ l.any lvOut = false := by cases l.any lvOut <;> simp
    unfold checkNo at hc ⊢
    by_cases h1 : l.length = 16
    · rw [if_neg (by omega)] at hc ⊢
      rcases hq with hq | hq
      · exact .inr (.inl ⟨by simp; omega, by simp; omega, hq, by rw [hq]; rfl⟩)
      · rw [hq] at hc; exact absurd rfl hc
    · by_cases h2 : l.length = 64
      · rw [if_neg (by omega)] at hc ⊢
        rcases hq with hq | hq
        · exact .inr (.inr ⟨by simp; omega, by simp; omega, hq, by rw [hq]; rfl⟩)
        · rw [hq] at hc; exact absurd rfl hc
      · exact .inl ⟨by simp; omega, by simp; omega, by rw [if_pos ⟨h1, h2⟩]⟩
  clear hc
  rcases hcase with ⟨h1, h2, h3⟩ | ⟨h1, h2, hq, h3⟩ | ⟨h1, h2, hq, h3⟩
  all_goals
    rw [h3]
    clear h3
    try rw [hq] at HWI
    go_enter Tryd.func19, Tryd.ntmps19
    go_wp2_with fail
    generalize w.alloc (.cells #[.int .i64 0, .slice none 0 0] 38) = w1 at *
    try
      refine (HWI.out _ (by exact XB.out.1)).mono ?_
      rintro e w2 ⟨rfl, rfl⟩
      go_wp2_with fail
    refine (fail_any _ _).mono ?_
    rintro e w3 ⟨rfl, hb3⟩
    have hP := P0.out.below hb3 P0.out.lt
    obtain ⟨e0, e1⟩ := blk2E hP
    have ef0 := hP.frozen 0
    have ef1 := hP.frozen 1
    have B3 := hid (And.intro (XB.out.2.trans (hb3.mono XB.out.2.size)) hP)
    clear hb3 hP
    go_wp2_with fail
    first
      | (have hk9 : Blk ((w3.setCell ⟨w.heap.size, 0, none⟩ (.int .i64 14)).setCell ⟨w.heap.size, 1, none⟩ (.slice none 0 0)) w.heap.size 38 #[.int .i64 14, .slice none 0 0] := by simpa using (B3.out.2.put 0 (.int .i64 14)).put 1 (.slice none 0 0)
         obtain ⟨h90, h91⟩ := blk2E hk9
         exact bodyPost_ret (v := .tuple #[.slice none 0 0, .agg #[.int .i64 14, .slice none 0 0]]) (by simp [results, Tryd.results19, go_sem, h90, h91]) rfl ⟨rfl, (B3.out.1.setCell (p := ⟨w.heap.size, 0, none⟩) (Nat.le_refl _) _).setCell (p := ⟨w.heap.size, 1, none⟩) (Nat.le_refl _) _⟩)
      | (have hk9 : Blk ((w3.setCell ⟨w.heap.size, 0, none⟩ (.int .i64 3)).setCell ⟨w.heap.size, 1, none⟩ (.slice none 0 0)) w.heap.size 38 #[.int .i64 3, .slice none 0 0] := by simpa using (B3.out.2.put 0 (.int .i64 3)).put 1 (.slice none 0 0)
         obtain ⟨h90, h91⟩ := blk2E hk9
         exact bodyPost_ret (v := .tuple #[.slice none 0 0, .agg #[.int .i64 3, .slice none 0 0]]) (by simp [results, Tryd.results19, go_sem, h90, h91]) rfl ⟨rfl, (B3.out.1.setCell (p := ⟨w.heap.size, 0, none⟩) (Nat.le_refl _) _).setCell (p := ⟨w.heap.size, 1, none⟩) (Nat.le_refl _) _⟩)
set_option maxRecDepth 100000 in
set_option maxHeartbeats 8000000 in
theorem cwrites_walk (x : Value) (l : List (List Int)) (w : World) (hx : Els w 1 (IntsR w) x l) (hml : l.length ≤ maxLen) (hg : ErrT w) :
    Calls Tryd.prog 3 #[x] w fun e w' => e = .returned (.bool true) ∧ Below w.heap.size w w' := by
  obtain ⟨A, c, rfl, hc⟩ := hx.form
  have HG := hid (And.intro hg hg.lt)
  have X := hid (And.intro hx hml)
  clear hg hx hc hml
  go_enter Tryd.func3, Tryd.ntmps3
  go_wp2_with fail
  refine (first14 _ HG.out.1).mono ?_
  rintro e w1 ⟨rfl, h1⟩
  have B1 := hid h1
  clear h1
  go_wp2_with fail
  refine (new_wr _).mono ?_
  rintro e w2 ⟨b1, F1, rfl, ha1, hf1, hb1⟩
  have O2 := hid (show OwnC (AtWr b1) w Wr.new w2 F1 from ⟨ha1, fun k hk => Nat.le_trans B1.out.size (hf1 k hk), B1.out.trans (hb1.mono B1.out.size)⟩)
  clear ha1 hf1 hb1
  go_wp2_with fail
  refine (few_any _ l _ (by
    have h := X.out.1.below O2.out.bel
    exact h.mono (fun a cs hR => by
      obtain ⟨v, h1, h2, h3⟩ := hR
      exact ⟨v, h1, h2.below O2.out.bel, h3⟩)) X.out.2).mono ?_
  rintro e w3 ⟨q, rfl, rfl, hq⟩
  have HQ := hid hq
  clear hq
  cases q with
  | false =>
    go_wp2_with fail
    refine (first14 _ (by exact HG.out.1.below O2.out.bel HG.out.2)).mono ?_
    rintro e w4 ⟨rfl, hb4⟩
    have B4 := hid (O2.out.bel.trans (hb4.mono O2.out.bel.size))
    clear hb4
    go_wp2_with fail
    go_ret
    exact ⟨rfl, B4.out⟩
  | true =>
    have HL := hid (HQ.out rfl)
    clear HQ
    go_wp2_with fail
    refine (new_xw _).mono ?_
    rintro e w4 ⟨b2, eb, G1, rfl, ha2, hf2, hb2⟩
    have T4 := hid (show TwoAt w.heap.size w (AtWr b1) (AtXw b2 eb) F1 G1 Wr.new XWr.new w4 from ⟨(wr_coder b1).keep _ _ F1 (fun _ => False) _ O2.out.a (Only.of_below hb2) (fun _ _ h => h), ha2, fun k h1 h2 => by have := (wr_coder b1).there _ _ _ _ O2.out.a h1; have := hf2 k h2; omega, O2.out.lo, fun k hk => Nat.le_trans O2.out.bel.size (hf2 k hk), O2.out.bel.trans (hb2.mono O2.out.bel.size), Nat.le_trans O2.out.bel.size hb2.size⟩)
    clear ha2 hf2 hb2
    go_wp2_with fail
    go_loopg [5] l.length (fun k iv wr => ∃ (i : Nat) (s : Wr) (t : XWr) (F G : Nat → Prop) (m m2 : Nat), i + k = l.length ∧ iv = .int .i64 i ∧ TwoAt w.heap.size w (AtWr b1) (AtXw b2 eb) F G s t wr ∧ WrSim s t ∧ (m ≤ 4 + 8300 * i ∧ m2 ≤ 4 + 8300 * i) ∧ s.Ok m ∧ t.Ok m2)
    case atStart => exact ⟨0, Wr.new, XWr.new, F1, G1, 0, 4, by omega, rfl, T4.out, simw_new, by omega, ok_wr_new, ok_xw_new⟩
    case round =>
      obtain ⟨i, s, t, F, G, m, m2, hik, rfl, hown, hsim, ⟨hm, hm2⟩, hok, hok2⟩ := hrel
      have O := hid (And.intro hown (And.intro hsim (And.intro hok hok2)))
      have hl200 := HL.out.1
      by_cases hlt : i < l.length
      · have h9 : decide (i < l.length) = true := decide_eq_true hlt
        have e1 : decide ((i : Int) < (l.length : Int)) = true := by simp; omega
        obtain ⟨zs, hz⟩ : ∃ zs, l[i]? = some zs := ⟨l[i], List.getElem?_eq_getElem hlt⟩
        obtain ⟨b4, o4, A4, c4, rfl, hb4, hcell, hnz, _⟩ := ints_at X.out.1 hz
        have hzl := HL.out.2 zs (List.mem_of_getElem? hz)
        have f0 := (hown.bel.cell (p := ⟨b4, o4 + i, none⟩) hb4).trans hcell
        have k0 : (0 : Int) ≤ (i : Int) := by omega
        have k1 : (i : Int) < (l.length : Int) := by omega
        have HI := hid (And.intro hik hlt)
        have C0 := hid (And.intro hcell (And.intro hb4 hnz))
        clear hown hsim hok hok2 hz hcell hb4 hnz hik hlt
        go_wp2_with fail
        refine (copy_ints _ zs _ (by exact C0.out.2.2.below O.out.1.bel) (by omega)).mono ?_
        rintro e w5 ⟨g5, cap5, rfl, ho5, hb5⟩
        have hn5 : ∀ (F : Nat → Prop), (∀ k, F k → k < wr.heap.size) → NOff (.slice (some ⟨g5, 0, none⟩) zs.length cap5) zs w5 F := fun F hF => ⟨Nums.of_own ho5 rfl, fun k hk hFk => by have := (ho5.lt k hk).1; have := hF k hFk; omega, fun k hk => (ho5.lt k hk).2⟩
        have T5 := hid (And.intro (O.out.1.below (wr_coder b1) (xw_coder b2 eb) hb5) (And.intro (hn5 F (fun k hk => (wr_coder b1).there _ _ _ _ O.out.1.l hk)) (hn5 G (fun k hk => (xw_coder b2 eb).there _ _ _ _ O.out.1.r hk))))
        have f1 := (T5.out.1.bel.cell (p := ⟨b4, o4 + i, none⟩) C0.out.2.1).trans C0.out.1
        clear ho5 hb5 hn5 f0
        by_cases hv : checkNo zs = 0
        · obtain ⟨sd, base, hsd, hin⟩ := valid_of hv
          have hne : zs ≠ [] := by
            rintro rfl
            rcases hsd with ⟨_, _, h⟩ | ⟨_, _, h⟩ <;> exact absurd h (by decide)
          have V := hid (And.intro hsd (And.intro hin hne))
          clear hv hsd hin hne
          go_wp2_with fail
          refine (wcode b1 sd base _ zs V.out.1 V.out.2.1 s _ F m (by exact T5.out.1.l) O.out.2.2.1 (by omega) (by exact T5.out.2.1)).mono ?_
          rintro e w6 ⟨F6, hcw, hans⟩
          obtain ⟨ht1, _⟩ := wr_told echo_wr V.out.1 V.out.2.1 s
          rw [ht1] at hans
          obtain ⟨g6, rfl, hb6⟩ := hans
          rw [show ((none, zs) : SqR).2.length = zs.length from rfl]
          obtain ⟨m6, hm6, hok6⟩ := ok_square (wr_coder b1) V.out.1 s m O.out.2.2.1
          obtain ⟨m7, hm7, hok7⟩ := ok_square (xw_coder b2 eb) V.out.1 t m2 O.out.2.2.2
          obtain ⟨_, hsim7⟩ := wr_alike.run (squareA base (ordOf sd) zs) (ctx_square base (by obtain ⟨_, h, _⟩ := ord_sized V.out.1; exact h) _ _) O.out.2.1
          have OKS := hid (And.intro hsim7 (And.intro hok6 hok7))
          have hG5 : ∀ k, G k → k < w5.heap.size := fun k hk => (xw_coder b2 eb).there _ _ _ _ T5.out.1.r hk
          have T6 := hid (And.intro (T5.out.1.leftC (xw_coder b2 eb) hcw) (And.intro (nums_blk hb6.b rfl) (And.intro (T5.out.2.1.n.keepO hcw.o T5.out.2.1.f) (fun k (hk : (Value.slice (some ⟨g6, 0, none⟩) zs.length zs.length).ownBlock = some k) (hGk : G k) => (by
            have e : g6 = k := by simpa [Value.ownBlock] using hk
            have := hG5 k hGk
            have := hb6.lo
            omega : False)))))
          have f6 := (T6.out.1.bel.cell (p := ⟨b4, o4 + i, none⟩) C0.out.2.1).trans C0.out.1
          clear hcw hb6 ht1 hok6 hok7 hsim7 hG5 f1
          go_wp2_with fail
          refine (rcode_any b2 (xw_coder b2 eb) sd base _ zs V.out.1 V.out.2.1 t _ G m2 (by exact T6.out.1.r) O.out.2.2.2 (by omega) (by exact noff_arg C0.out.2.2 V.out.2.2 T6.out.1.bel T6.out.1.rB)).mono ?_
          rintro e w7 ⟨G7, hcw7, hans7⟩
          obtain ⟨hx1, hx2⟩ := wr_told echo_xw V.out.1 V.out.2.1 t
          rw [hx2] at hcw7 hans7
          rw [hx1] at hans7
          obtain ⟨g7, rfl, hb7⟩ := hans7
          rw [show ((none, zs) : SqR).2.length = zs.length from rfl]
          have T7 := hid (And.intro (T6.out.1.rightC (wr_coder b1) hcw7) (And.intro (T6.out.2.1.keepO hcw7.o T6.out.2.2.2) (And.intro (nums_blk hb7.b rfl) (T6.out.2.2.1.keepO hcw7.o T5.out.2.2.f))))
          clear hcw7 hb7 hx1 hx2 f6
          have HEC := hid (err_same 0)
          rw [show codeV 0 = .nilIface from rfl] at HEC
          go_wp2_with fail
          have hal : Below w7.heap.size w7 (w7.alloc (.cells #[.int .i64 0, .slice none 0 0] 38)) := (Below.refl _ _).alloc (Nat.le_refl _) _
          have T8 := hid (T7.out.1.below (wr_coder b1) (xw_coder b2 eb) hal)
          have N8 := hid (And.intro (T7.out.2.1.below hal) (And.intro (T7.out.2.2.1.below hal) (T7.out.2.2.2.below hal)))
          have E8 := hid (Blk.new w7 38 #[.int .i64 0, .slice none 0 0])
          clear hal
          refine (ints_same _ _ zs _ (by exact N8.out.1) (by exact N8.out.2.1) (by first | omega | (show 0 ≤ 1000000; omega))).mono ?_
          rintro e w9 ⟨rfl, hb⟩
          have T9 := hid (T8.out.below (wr_coder b1) (xw_coder b2 eb) hb)
          have E9 := hid (And.intro (E8.out.below hb E8.out.lt) (N8.out.2.2.below hb))
          obtain ⟨c0, c1⟩ := blk2E E9.out.1
          clear hb
          go_wp2_with fail
          refine (HEC.out _ (by exact HG.out.1.below T9.out.bel HG.out.2)).mono ?_
          rintro e w10 ⟨rfl, hb⟩
          have T10 := hid (And.intro (T9.out.below (wr_coder b1) (xw_coder b2 eb) hb) (E9.out.2.below hb))
          have f10 := (T10.out.1.bel.cell (p := ⟨b4, o4 + i, none⟩) C0.out.2.1).trans C0.out.1
          clear hb c0 c1
          go_wp2_with fail
          refine (ints_same _ _ zs _ (by exact T10.out.2) (by exact C0.out.2.2.below T10.out.1.bel) (by omega)).mono ?_
          rintro e w11 ⟨rfl, hb⟩
          have T11 := hid (T10.out.1.below (wr_coder b1) (xw_coder b2 eb) hb)
          clear hb f10
          go_wp2_with fail
          go_roundg (gk - 1)
          case measure => have := HI.out; omega
          case rel => exact ⟨i + 1, _, _, F6, G7, m6, m7, by have := HI.out; omega, by go_num, T11.out, OKS.out.1, by omega, OKS.out.2.1, OKS.out.2.2⟩
        · have hcv : codeV (checkNo zs) = .iface 35 (.int .i64 (checkNo zs)) := by unfold codeV; rw [if_neg hv]
          have HCV := hid hcv
          have HV := hid hv
          clear hv hcv
          go_wp2_with fail
          refine (code_bad _ _ _ zs _ (by exact T5.out.2.1.n) (by omega) HV.out).mono ?_
          rintro e w6 ⟨rfl, rfl⟩
          rw [HCV.out]
          go_wp2_with fail
          refine (rcode_bad _ _ zs _ (by exact C0.out.2.2.below T5.out.1.bel) (by omega) HV.out).mono ?_
          rintro e w7 ⟨rfl, hb7⟩
          have T7 := hid (And.intro (T5.out.1.below (wr_coder b1) (xw_coder b2 eb) hb7) (And.intro (nums_nil w7) (And.intro (nums_nil w7) (T5.out.2.1.n.below hb7))))
          have OKS := hid (And.intro O.out.2.1 (And.intro O.out.2.2.1 O.out.2.2.2))
          clear hb7 f1
          generalize checkNo zs = cn at *
          have HEC := hid (err_same cn)
          rw [HCV.out] at HEC
          go_wp2_with fail
          have hal : Below w7.heap.size w7 (w7.alloc (.cells #[.int .i64 cn, .slice none 0 0] 38)) := (Below.refl _ _).alloc (Nat.le_refl _) _
          have T8 := hid (T7.out.1.below (wr_coder b1) (xw_coder b2 eb) hal)
          have N8 := hid (And.intro (T7.out.2.1.below hal) (And.intro (T7.out.2.2.1.below hal) (T7.out.2.2.2.below hal)))
          have E8 := hid (Blk.new w7 38 #[.int .i64 cn, .slice none 0 0])
          clear hal
          refine (ints_same _ _ [] _ (by exact N8.out.1) (by exact N8.out.2.1) (by first | omega | (show 0 ≤ 1000000; omega))).mono ?_
          rintro e w9 ⟨rfl, hb⟩
          have T9 := hid (T8.out.below (wr_coder b1) (xw_coder b2 eb) hb)
          have E9 := hid (And.intro (E8.out.below hb E8.out.lt) (N8.out.2.2.below hb))
          obtain ⟨c0, c1⟩ := blk2E E9.out.1
          clear hb
          go_wp2_with fail
          refine (HEC.out _ (by exact HG.out.1.below T9.out.bel HG.out.2)).mono ?_
          rintro e w10 ⟨rfl, hb⟩
          have T10 := hid (And.intro (T9.out.below (wr_coder b1) (xw_coder b2 eb) hb) (E9.out.2.below hb))
          have f10 := (T10.out.1.bel.cell (p := ⟨b4, o4 + i, none⟩) C0.out.2.1).trans C0.out.1
          clear hb c0 c1
          go_wp2_with fail
          refine (ints_same _ _ zs _ (by exact T10.out.2) (by exact C0.out.2.2.below T10.out.1.bel) (by omega)).mono ?_
          rintro e w11 ⟨rfl, hb⟩
          have T11 := hid (T10.out.1.below (wr_coder b1) (xw_coder b2 eb) hb)
          clear hb f10
          go_wp2_with fail
          go_roundg (gk - 1)
          case measure => have := HI.out; omega
          case rel => exact ⟨i + 1, s, t, F, G, m, m2, by have := HI.out; omega, by go_num, T11.out, OKS.out.1, by omega, OKS.out.2.1, OKS.out.2.2⟩
      · obtain rfl : i = l.length := by omega
        have e1 : decide ((l.length : Int) < (l.length : Int)) = false := by simp
        have hE := xw_E O.out.1.r
        have EB := hid (WrSim.bytes O.out.2.1)
        have T5 := hid (O.out.1.below (wr_coder b1) (xw_coder b2 eb) (Below.refl wr.heap.size wr).drew)
        clear hown hsim hok hok2 hik hlt
        go_wp2_with fail
        go_region_held3 (fun W => W.cell? ⟨b2, 1, none⟩ = some (.pointer (some ⟨eb, 0, none⟩)))
          (first
            | exact hE8
            | exact hE7
            | exact hE6
            | exact hE)
          (first
            | (go_at_call 13
               refine (first14 _ (by exact HG.out.1.below T5.out.bel HG.out.2)).mono ?_
               rintro e w9 ⟨rfl, h9⟩
               have T6 := hid (T5.out.below (wr_coder b1) (xw_coder b2 eb) h9)
               have hE6 := xw_E T6.out.r
               clear h9)
            | (go_at_call 23
               refine (wr_endA b1 _ F s m (by exact T6.out.l) O.out.2.2.1 (by omega)).mono ?_
               rintro e w12 ⟨g1, p1, rfl, o1, b1'⟩
               have T7 := hid (T6.out.below (wr_coder b1) (xw_coder b2 eb) b1')
               have O1 := hid (From.of_own o1)
               have hE7 := xw_E T7.out.r
               clear o1 b1')
            | (go_at_call 24
               refine (xw_end b2 eb _ G t (by exact T7.out.r)).mono ?_
               rintro e w13 ⟨g2, p2, rfl, o2, b2'⟩
               rw [EB.out] at o2
               rw [EB.out]
               have T8 := hid (T7.out.below (wr_coder b1) (xw_coder b2 eb) b2')
               have hE8 := xw_E T8.out.r
               have O2b := hid (From.of_own o2)
               have O3 := hid (From.belowF O1.out b2')
               clear o2 b2')
            | (go_at_call 22
               refine (bytes_same (by exact O3.out) (by exact O2b.out)).mono ?_
               rintro e w14 ⟨rfl, rfl⟩))
        all_goals
          go_wp2_with fail
          go_ret
          exact ⟨rfl, T8.out.bel⟩
end Go.Proofs.YtnlfnknkiggejaaDoor
