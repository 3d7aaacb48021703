/- CoefZeros: the walk. -/
import Derived.Test.YtnlfnknkiggejaaDoorFew
import Derived.Test.YtnlfnknkiggejaaDoorCoefD
import Derived.Deep.RegionHeld3
import Derived.BigQuiet
namespace Go.Proofs.YtnlfnknkiggejaaDoor
open Go.RowKit

theorem valid_of {l : List Int} (h : checkNo l = 0) : ∃ sd base, Sized l sd base ∧ l.any lvOut = false := by
  unfold checkNo at h
  by_cases h1 : l.length ≠ 16 ∧ l.length ≠ 64
  · rw [if_pos h1] at h; omega
  · rw [if_neg h1] at h
    have h2 : l.any lvOut = false := by
      cases hq : l.any lvOut
      · rfl
      · rw [hq] at h; exact absurd h (by decide)
    by_cases h3 : l.length = 16
    · exact ⟨4, 14, .inl ⟨rfl, rfl, h3⟩, h2⟩
    · exact ⟨8, 39, .inr ⟨rfl, rfl, by omega⟩, h2⟩
theorem in_of {l : List Int} (h : l.any lvOut = false) : ∀ v ∈ l, -16320 ≤ v ∧ v ≤ 16320 := by
  intro v hv
  apply lvOut_false
  rw [Bool.eq_false_iff]
  intro h2
  have := List.any_eq_true.2 ⟨v, hv, h2⟩
  rw [h] at this
  exact Bool.noConfusion this
theorem wr_told1 {σ : Type} {M : Mach σ} (hE : Echo M) {l : List Int} {sd base : Nat} (hsd : Sized l sd base) (hin : l.any lvOut = false) (s : σ) : (M.run (squareA base (ordOf sd) l) s).1 = (none, l) := by
  obtain ⟨ho, _, hn⟩ := ord_sized hsd
  rw [hE.run]
  exact say_square base (ordOf sd) l ho (in_of hin) hn
theorem noff_arg {w W : World} {x : Value} {l : List Int} {F : Nat → Prop} (hn : Nums w x l) (h0 : l ≠ []) (hb : Below w.heap.size w W) (hF : ∀ k, F k → w.heap.size ≤ k) : NOff x l W F := by
  have hn2 := hn.below hb
  obtain ⟨A, c, rfl, _, h3⟩ := hn
  obtain ⟨b, off, rfl, hlt, _⟩ := h3 h0
  have e : ∀ k, (Value.slice (some ⟨b, off, none⟩) l.length c).ownBlock = some k → k = b := fun k hk => by
    have : b = k := by simpa [Value.ownBlock] using hk
    exact this.symm
  exact ⟨hn2, fun k hk hFk => by have := e k hk; have := hF k hFk; omega, fun k hk => by have := e k hk; have := hb.size; omega⟩
theorem chance_nat (P : List Nat) (c : Nat) (h : c < 64) : chanceOf P (c : Int) = ((P.getD c 0 : Nat) : Int) := by
  unfold chanceOf
  rw [if_pos (by omega)]
  rfl
/-- A chance that was told false: it grows; the others stay. -/
theorem learn_false (P : List Nat) (h : POk P) (base c : Nat) (hb : base < 64) (hc : c < 64) : (P.getD c 0 ≤ (learnAt P base false).getD c 0) ∧ (c ≠ base → (learnAt P base false).getD c 0 = P.getD c 0) := by
  have hg : (learnAt P base false).getD c 0 = if base = c then learnP (P.getD base 0) false else P.getD c 0 := by
    unfold learnAt
    rw [List.getD_eq_getElem?_getD, List.getElem?_set]
    by_cases e : base = c
    · subst e
      rw [if_pos rfl, if_pos rfl, if_pos (by rw [h.len]; exact hb)]
      rfl
    · rw [if_neg e, if_neg e, List.getD_eq_getElem?_getD]
  rw [hg]
  by_cases e : base = c
  · subst e
    rw [if_pos rfl]
    exact ⟨by unfold learnP; simp, fun k => absurd rfl k⟩
  · rw [if_neg e]
    exact ⟨Nat.le_refl _, fun _ => rfl⟩
/-- The array holds these chances, as far as j. -/
def WasAt (W : World) (g : Nat) (P : List Nat) (j : Nat) : Prop := ∃ cs, Blk W g 48 cs ∧ cs.size = 64 ∧ (∀ k, k < 64 → ∃ z : Int, cs[k]? = some (.int .i64 z)) ∧ ∀ k, k < j → cs[k]? = some (.int .i64 ((P.getD k 0 : Nat) : Int))
theorem WasAt.zero {W : World} {g : Nat} {P : List Nat} {cs : Array Value} (h : Blk W g 48 cs) (hcs : cs = (List.replicate 64 (Value.int .i64 0)).toArray) : WasAt W g P 0 := by
  subst hcs
  refine ⟨_, h, by rw [List.size_toArray, List.length_replicate], fun k hk => ⟨0, ?_⟩, fun k hk => by omega⟩
  rw [List.getElem?_toArray, List.getElem?_replicate, if_pos hk]
theorem WasAt.again {W : World} {g : Nat} {P P' : List Nat} {j : Nat} (h : WasAt W g P j) : WasAt W g P' 0 := by
  obtain ⟨cs, h1, h2, h3, _⟩ := h
  exact ⟨cs, h1, h2, h3, fun k hk => by omega⟩
theorem WasAt.put {W : World} {g : Nat} {P : List Nat} {j : Nat} (h : WasAt W g P j) (hj : j < 64) : WasAt (W.setCell ⟨g, j, none⟩ (.int .i64 ((P.getD j 0 : Nat) : Int))) g P (j + 1) := by
  obtain ⟨cs, h1, h2, h3, h4⟩ := h
  refine ⟨_, h1.put j _, by rw [Array.size_setIfInBounds]; exact h2, fun k hk => ?_, fun k hk => ?_⟩
  · by_cases e : j = k
    · subst e
      exact ⟨_, Array.getElem?_setIfInBounds_self_of_lt (by omega)⟩
    · rw [Array.getElem?_setIfInBounds_ne e]
      exact h3 k hk
  · by_cases e : j = k
    · subst e
      exact Array.getElem?_setIfInBounds_self_of_lt (by omega)
    · rw [Array.getElem?_setIfInBounds_ne e]
      exact h4 k (by omega)
theorem WasAt.below {W W' : World} {g : Nat} {P : List Nat} {j : Nat} (h : WasAt W g P j) (hb : Below W.heap.size W W') : WasAt W' g P j := by
  obtain ⟨cs, h1, h2⟩ := h
  exact ⟨cs, h1.below hb h1.lt, h2⟩
theorem WasAt.keep {W W' : World} {S : Nat → Prop} {g : Nat} {P : List Nat} {j : Nat} (h : WasAt W g P j) (ho : Only S W W') (hg : ¬ S g) : WasAt W' g P j := by
  obtain ⟨cs, h1, h2⟩ := h
  exact ⟨cs, h1.keep ho hg, h2⟩
theorem WasAt.cell {W : World} {g : Nat} {P : List Nat} {j : Nat} (h : WasAt W g P j) {k : Nat} (hk : k < j) : W.cell? ⟨g, k, none⟩ = some (.int .i64 ((P.getD k 0 : Nat) : Int)) := by
  obtain ⟨cs, h1, _, _, h4⟩ := h
  exact (h1.cell k).trans (h4 k hk)
theorem WasAt.there {W : World} {g : Nat} {P : List Nat} {j : Nat} (h : WasAt W g P j) {k : Nat} (hk : k < 64) : ∃ z : Int, W.cell? ⟨g, k, none⟩ = some (.int .i64 z) := by
  obtain ⟨cs, h1, _, h3, _⟩ := h
  obtain ⟨z, hz⟩ := h3 k hk
  exact ⟨z, (h1.cell k).trans hz⟩
theorem WasAt.frozen {W : World} {g : Nat} {P : List Nat} {j : Nat} (h : WasAt W g P j) (k : Nat) : W.frozen? ⟨g, k, none⟩ = false := by
  obtain ⟨cs, h1, _⟩ := h
  exact h1.frozen k
theorem WasAt.lt {W : World} {g : Nat} {P : List Nat} {j : Nat} (h : WasAt W g P j) : g < W.heap.size := by
  obtain ⟨cs, h1, _⟩ := h
  exact h1.lt
/-- The coder and the array. -/
structure ZW (w : World) (b g : Nat) (Q : List Nat) (j : Nat) (s : Wr) (W : World) (F : Nat → Prop) : Prop where
  c : OwnC (AtWr b) w s W F
  a : WasAt W g Q j
  f : ¬ F g
  lo : w.heap.size ≤ g
theorem ZW.below {w W W' : World} {b g j : Nat} {Q : List Nat} {s : Wr} {F : Nat → Prop} (h : ZW w b g Q j s W F) (hb : Below W.heap.size W W') : ZW w b g Q j s W' F := ⟨h.c.below (wr_coder b) hb, h.a.below hb, h.f, h.lo⟩
theorem ZW.code {w W W' : World} {b g j : Nat} {Q : List Nat} {s s' : Wr} {F F' : Nat → Prop} (h : ZW w b g Q j s W F) (c : CW (AtWr b) W F s' W' F') : ZW w b g Q j s' W' F' :=
  ⟨h.c.code c, h.a.keep c.o h.f, fun hF => by
    rcases c.f g hF with h1 | h1
    · exact h.f h1
    · have := h.a.lt; omega, h.lo⟩
theorem ZW.put {w W : World} {b g j : Nat} {Q : List Nat} {s : Wr} {F : Nat → Prop} (h : ZW w b g Q j s W F) (hj : j < 64) : ZW w b g Q (j + 1) s (W.setCell ⟨g, j, none⟩ (.int .i64 ((Q.getD j 0 : Nat) : Int))) F := by
  have o : Only (fun k => k = g) W (W.setCell ⟨g, j, none⟩ (.int .i64 ((Q.getD j 0 : Nat) : Int))) := Only.put (S := fun k => k = g) (Only.refl _ _) rfl j _
  refine ⟨⟨(wr_coder b).keep _ _ F _ s h.c.a o (fun k hk e => h.f (by rw [← e]; exact hk)), h.c.lo, ?_⟩, h.a.put hj, h.f, h.lo⟩
  exact h.c.bel.setCell (p := ⟨g, j, none⟩) h.lo _
set_option maxRecDepth 100000 in
set_option maxHeartbeats 1000000 in
theorem czeros_walk (x : Value) (l : List (List Int)) (u : Bool) (w : World) (hx : Els w 1 (IntsR w) x l) (hml : l.length ≤ maxLen) (hg : ErrT w) :
    Calls Tryd.prog 8 #[x, .bool u] w fun e w' => e = .returned (.bool true) ∧ Below w.heap.size w w' := by
  obtain ⟨A, c, rfl, hc⟩ := hx.form
  have HG := hid (And.intro hg hg.lt)
  have X := hid (And.intro hx hml)
  clear hg hx hc hml
  go_enter Tryd.func8, Tryd.ntmps8
  go_wp2_with fail
  refine (first14 _ HG.out.1).mono ?_
  rintro e w1 ⟨rfl, h1⟩
  have B1 := hid h1
  clear h1
  go_wp2_with fail
  refine (new_wr _).mono ?_
  rintro e w2 ⟨b1, F1, rfl, ha1, hf1, hb1⟩
  have O2 := hid (show OwnC (AtWr b1) w Wr.new w2 F1 from ⟨ha1, fun k hk => Nat.le_trans B1.out.size (hf1 k hk), B1.out.trans (hb1.mono B1.out.size)⟩)
  clear ha1 hf1 hb1
  go_wp2_with fail
  refine (few_any _ l _ (by
    have h := X.out.1.below O2.out.bel
    exact h.mono (fun a cs hR => by
      obtain ⟨v, h1, h2, h3⟩ := hR
      exact ⟨v, h1, h2.below O2.out.bel, h3⟩)) X.out.2).mono ?_
  rintro e w3 ⟨q, rfl, rfl, hq⟩
  have HQ := hid hq
  clear hq
  cases q with
  | false =>
    go_wp2_with fail
    refine (first14 _ (by exact HG.out.1.below O2.out.bel HG.out.2)).mono ?_
    rintro e w4 ⟨rfl, hb4⟩
    have B4 := hid (O2.out.bel.trans (hb4.mono O2.out.bel.size))
    clear hb4
    go_wp2_with fail
    go_ret
    exact ⟨rfl, B4.out⟩
  | true =>
    have HL := hid (HQ.out rfl)
    clear HQ
    go_wp2_with fail
    go_loopg [6] l.length (fun k iv wr => ∃ (i : Nat) (s : Wr) (F : Nat → Prop) (m : Nat), i + k = l.length ∧ iv = .int .i64 i ∧ OwnC (AtWr b1) w s wr F ∧ m ≤ 16600 * i ∧ s.Ok m)
    case atStart => exact ⟨0, Wr.new, F1, 0, by omega, rfl, O2.out, by omega, ok_wr_new⟩
    case round =>
      obtain ⟨i, s, F, m, hik, rfl, hown, hm, hok⟩ := hrel
      have O := hid (And.intro hown hok)
      have hl200 := HL.out.1
      by_cases hlt : i < l.length
      · have h9 : decide (i < l.length) = true := decide_eq_true hlt
        have e1 : decide ((i : Int) < (l.length : Int)) = true := by simp; omega
        obtain ⟨zs, hz⟩ : ∃ zs, l[i]? = some zs := ⟨l[i], List.getElem?_eq_getElem hlt⟩
        obtain ⟨b4, o4, A4, c4, rfl, hb4, hcell, hnz, _⟩ := ints_at X.out.1 hz
        have hzl := HL.out.2 zs (List.mem_of_getElem? hz)
        have k0 : (0 : Int) ≤ (i : Int) := by omega
        have k1 : (i : Int) < (l.length : Int) := by omega
        have HI := hid (And.intro hik hlt)
        have C0 := hid (And.intro hcell (And.intro hb4 hnz))
        have hal : Below wr.heap.size wr (wr.alloc (.cells #[.int .i64 0, .int .i64 0, .int .i64 0, .int .i64 0, .int .i64 0, .int .i64 0, .int .i64 0, .int .i64 0, .int .i64 0, .int .i64 0, .int .i64 0, .int .i64 0, .int .i64 0, .int .i64 0, .int .i64 0, .int .i64 0, .int .i64 0, .int .i64 0, .int .i64 0, .int .i64 0, .int .i64 0, .int .i64 0, .int .i64 0, .int .i64 0, .int .i64 0, .int .i64 0, .int .i64 0, .int .i64 0, .int .i64 0, .int .i64 0, .int .i64 0, .int .i64 0, .int .i64 0, .int .i64 0, .int .i64 0, .int .i64 0, .int .i64 0, .int .i64 0, .int .i64 0, .int .i64 0, .int .i64 0, .int .i64 0, .int .i64 0, .int .i64 0, .int .i64 0, .int .i64 0, .int .i64 0, .int .i64 0, .int .i64 0, .int .i64 0, .int .i64 0, .int .i64 0, .int .i64 0, .int .i64 0, .int .i64 0, .int .i64 0, .int .i64 0, .int .i64 0, .int .i64 0, .int .i64 0, .int .i64 0, .int .i64 0, .int .i64 0, .int .i64 0] 48)) := (Below.refl _ _).alloc (Nat.le_refl _) _
        have Z0 := hid (show ZW w b1 wr.heap.size s.P 0 s _ F from ⟨hown.below (wr_coder b1) hal, WasAt.zero (Blk.new wr _ _) rfl, hown.at_new (wr_coder b1), hown.bel.size⟩)
        clear hown hok hz hcell hb4 hnz hik hlt hal
        obtain ⟨gk0, hgk0⟩ : ∃ g, g = gk := ⟨gk, rfl⟩
        subst hgk0
        go_wp2_with fail
        generalize wr.alloc (.cells #[.int .i64 0, .int .i64 0, .int .i64 0, .int .i64 0, .int .i64 0, .int .i64 0, .int .i64 0, .int .i64 0, .int .i64 0, .int .i64 0, .int .i64 0, .int .i64 0, .int .i64 0, .int .i64 0, .int .i64 0, .int .i64 0, .int .i64 0, .int .i64 0, .int .i64 0, .int .i64 0, .int .i64 0, .int .i64 0, .int .i64 0, .int .i64 0, .int .i64 0, .int .i64 0, .int .i64 0, .int .i64 0, .int .i64 0, .int .i64 0, .int .i64 0, .int .i64 0, .int .i64 0, .int .i64 0, .int .i64 0, .int .i64 0, .int .i64 0, .int .i64 0, .int .i64 0, .int .i64 0, .int .i64 0, .int .i64 0, .int .i64 0, .int .i64 0, .int .i64 0, .int .i64 0, .int .i64 0, .int .i64 0, .int .i64 0, .int .i64 0, .int .i64 0, .int .i64 0, .int .i64 0, .int .i64 0, .int .i64 0, .int .i64 0, .int .i64 0, .int .i64 0, .int .i64 0, .int .i64 0, .int .i64 0, .int .i64 0, .int .i64 0, .int .i64 0] 48) = W0 at *
        generalize wr.heap.size = g0 at *
        go_loopg [8] 64 (fun k iv wr => ∃ j : Nat, j + k = 64 ∧ iv = .int .i64 j ∧ ZW w b1 g0 s.P j s wr F)
        case atStart => exact ⟨0, by omega, rfl, Z0.out⟩
        case round =>
          obtain ⟨j, hj, rfl, hZ⟩ := hrel
          have Z := hid hZ
          by_cases hj64 : j < 64
          · have d1 : decide ((j : Int) < 64) = true := by simp; omega
            obtain ⟨z, hzc⟩ := hZ.a.there hj64
            have hfz := hZ.a.frozen j
            have k2 : (0 : Int) ≤ (j : Int) := by omega
            have k3 : (j : Int) < 64 := by omega
            have CH := hid (fun W (h : AtWr b1 W F s) => wr_chance b1 W F s (j : Int) h O.out.2.P.len)
            rw [chance_nat s.P j hj64] at CH
            have HJ := hid (And.intro hj hj64)
            clear hZ hj hj64
            go_wp2_with fail
            refine (CH.out _ (by exact Z.out.c.a)).mono ?_
            rintro e w9 ⟨rfl, rfl⟩
            go_wp2_with fail
            go_roundg (gk - 1)
            case measure => have := HJ.out; omega
            case rel => exact ⟨j + 1, by have := HJ.out; omega, by go_num, Z.out.put (by have := HJ.out; omega)⟩
          · obtain rfl : j = 64 := by omega
            clear hj hj64 hZ
            have hnn : nOf u ≤ 64 ∧ 0 < nOf u := by cases u <;> simp [nOf]
            have hsz := sized_zeros u
            have hzl0 : (zerosL (nOf u)).length = nOf u := by simp [zerosL]
            have HZ := hid (And.intro hsz hzl0)
            have hmk := run_make_int (nOf u) (by omega)
            have hb39 : baseOf u = if u then 39 else 14 := rfl
            have HB39 := hid hb39
            clear hsz hzl0 hb39
            go_upto_if 48 with fail
            obtain ⟨w5, hw5⟩ : ∃ q, q = wr := ⟨_, rfl⟩
            subst hw5
            go_cut [9] from 48 to 48 (fun v W => v = .int .i64 (nOf u : Int) ∧ w5 = W)
            case first =>
              cases u
              all_goals
                go_wp2_with fail
                go_meet
                exact ⟨rfl, rfl⟩
            case rest =>
            obtain ⟨rfl, rfl⟩ := hcut
            generalize nOf u = n at *
            have f1 := (Z.out.c.bel.cell (p := ⟨b4, o4 + i, none⟩) C0.out.2.1).trans C0.out.1
            by_cases hv : checkNo zs = 0
            · obtain ⟨sd, base, hsd, hin⟩ := valid_of hv
              have hne : zs ≠ [] := by
                rintro rfl
                rcases hsd with ⟨_, _, h⟩ | ⟨_, _, h⟩ <;> exact absurd h (by decide)
              have V := hid (And.intro hsd (And.intro hin hne))
              clear hv hsd hin hne
              have hf1 : (w5.alloc (.cells ((zerosL n).map intV).toArray 3)).cell? ⟨b4, o4 + i, none⟩ = some (.slice A4 zs.length c4) := (World.cell?_alloc_lt _ _ _ (Nat.lt_of_lt_of_le C0.out.2.1 Z.out.c.bel.size)).trans f1
              go_wp2_with fail
              have hal : Below w5.heap.size w5 (w5.alloc (.cells ((zerosL n).map intV).toArray 3)) := (Below.refl _ _).alloc (Nat.le_refl _) _
              have hgn : ¬ F w5.heap.size := Z.out.c.at_new (wr_coder b1)
              have hxin := noff_new (n := n) (l := zerosL n) (F := F) (Blk.new w5 3 ((zerosL n).map intV).toArray) rfl HZ.out.2 hgn
              have Z5 := hid (And.intro (Z.out.below hal) hxin)
              have hg5 : w5.heap.size ≠ g0 := by have := Z.out.a.lt; omega
              clear hal hgn hxin f1 hf1
              refine (wcode b1 sd base _ zs V.out.1 V.out.2.1 s _ F m (by exact Z5.out.1.c.a) O.out.2 (by omega) (by exact noff_arg C0.out.2.2 V.out.2.2 Z5.out.1.c.bel Z5.out.1.c.lo)).mono ?_
              rintro e w6 ⟨F6, hcw, hans⟩
              rw [wr_told1 echo_wr V.out.1 V.out.2.1 s] at hans
              obtain ⟨g6, rfl, _⟩ := hans
              obtain ⟨m6, hm6, hok6⟩ := ok_square (wr_coder b1) V.out.1 s m O.out.2
              have Z6 := hid (And.intro (Z5.out.1.code hcw) (And.intro (Z5.out.2.moved hcw.o hcw.f) hok6))
              clear hcw hok6
              generalize (wrM.run (squareA base (ordOf sd) zs) s).2 = s6 at *
              generalize w5.heap.size = gin at *
              go_wp2_with fail
              go_loopg [13] 64 (fun k iv wr => ∃ j : Nat, j + k = 64 ∧ iv = .int .i64 j ∧ (ZW w b1 g0 s6.P j s6 wr F6 ∧ NOff (.slice (some ⟨gin, 0, none⟩) n n) (zerosL n) wr F6))
              case atStart => exact ⟨0, by omega, rfl, ⟨Z6.out.1.c, Z6.out.1.a.again, Z6.out.1.f, Z6.out.1.lo⟩, Z6.out.2.1⟩
              case round =>
                obtain ⟨j, hj, rfl, hZ, hN⟩ := hrel
                have Y := hid (And.intro hZ hN)
                by_cases hj64 : j < 64
                · have d1 : decide ((j : Int) < 64) = true := by simp; omega
                  obtain ⟨z, hzc⟩ := hZ.a.there hj64
                  have hfz := hZ.a.frozen j
                  have k2 : (0 : Int) ≤ (j : Int) := by omega
                  have k3 : (j : Int) < 64 := by omega
                  have CH := hid (fun W (h : AtWr b1 W F6 s6) => wr_chance b1 W F6 s6 (j : Int) h Z6.out.2.2.P.len)
                  rw [chance_nat s6.P j hj64] at CH
                  have HJ := hid (And.intro hj hj64)
                  clear hZ hN hj hj64
                  go_wp2_with fail
                  refine (CH.out _ (by exact Y.out.1.c.a)).mono ?_
                  rintro e w9 ⟨rfl, rfl⟩
                  go_wp2_with fail
                  go_roundg (gk - 1)
                  case measure => have := HJ.out; omega
                  case rel => exact ⟨j + 1, by have := HJ.out; omega, by go_num, Y.out.1.put (by have := HJ.out; omega), Y.out.2.put (fun k hk => (by have e : gin = k := (by simpa [Value.ownBlock] using hk); omega)) j _⟩
                · obtain rfl : j = 64 := by omega
                  clear hj hj64 hZ hN
                  have hrz := run_zeros wrM echo_wr (baseOf u) (ordOf (sdOf u)) n s6
                  have hoff : NOff (.slice (some ⟨gin, 0, none⟩) n n) (zerosL n) wr F6 := Y.out.2
                  have YY := hid (And.intro Y.out.1 hoff)
                  go_wp2_with fail
                  refine (wcode b1 (sdOf u) (baseOf u) _ (zerosL n) HZ.out.1 (zeros_in n) s6 _ F6 m6 (by exact YY.out.1.c.a) Z6.out.2.2 (by omega) (by exact YY.out.2)).mono ?_
                  rintro e w7 ⟨F7, hcw7, hans7⟩
                  obtain ⟨m7, hm7, hok7⟩ := ok_square (wr_coder b1) HZ.out.1 s6 m6 Z6.out.2.2
                  rw [hrz] at hcw7 hans7 hok7
                  obtain ⟨g7, rfl, _⟩ := hans7
                  dsimp only at hcw7 hok7
                  have FIN := hid (fun j (hj : j < 64) => learn_false s6.P Z6.out.2.2.P (baseOf u) j (by cases u <;> decide) hj)
                  have Z7 := hid (And.intro (YY.out.1.code hcw7) hok7)
                  clear hcw7 hok7 hrz hoff
                  have hs7 : ∀ j, j < 64 → s6.P.getD j 0 ≤ (wrM.bit s6 (baseOf u) false).2.P.getD j 0 ∧ (j ≠ baseOf u → (wrM.bit s6 (baseOf u) false).2.P.getD j 0 = s6.P.getD j 0) := FIN.out
                  clear FIN
                  have FIN := hid hs7
                  clear hs7
                  generalize (wrM.bit s6 (baseOf u) false).2 = s7 at *
                  go_wp2_with fail
                  go_loopg [14] 64 (fun k iv wr => ∃ j : Nat, j + k = 64 ∧ iv = .int .i64 j ∧ ZW w b1 g0 s6.P 64 s7 wr F7)
                  case atStart => exact ⟨0, by omega, rfl, Z7.out.1⟩
                  case round =>
                    obtain ⟨j, hj, rfl, hZ⟩ := hrel
                    by_cases hj64 : j < 64
                    · have d1 : decide ((j : Int) < 64) = true := by simp; omega
                      have hcq := hZ.a.cell hj64
                      have k2 : (0 : Int) ≤ (j : Int) := by omega
                      have k3 : (j : Int) < 64 := by omega
                      have CH := hid (fun W (h : AtWr b1 W F7 s7) => wr_chance b1 W F7 s7 (j : Int) h Z7.out.2.P.len)
                      rw [chance_nat s7.P j hj64] at CH
                      obtain ⟨hle, heq⟩ := FIN.out j hj64
                      obtain ⟨pv, hpv⟩ : ∃ z : Int, z = ((s7.P.getD j 0 : Nat) : Int) := ⟨_, rfl⟩
                      obtain ⟨qv, hqv⟩ : ∃ z : Int, z = ((s6.P.getD j 0 : Nat) : Int) := ⟨_, rfl⟩
                      rw [← hpv] at CH
                      have CQ := hid (show ∀ nn, Calls Tryd.prog 31 #[.pointer (some ⟨b1, 0, none⟩), .int .i64 (j : Int)] (wr.drewN nn) fun e w' => e = .returned (.int .i64 pv) ∧ w' = wr.drewN nn from fun nn => (CH.out (wr.drewN nn) ((hZ.below (W' := wr.drewN nn) ⟨rfl, rfl, rfl, Nat.le_refl _, fun _ _ => rfl⟩).c.a)).mono (fun _ _ h => And.intro h.1 h.2.symm))
                      rw [← hqv] at hcq
                      have hle2 : qv ≤ pv := by omega
                      have heq2 : j ≠ baseOf u → pv = qv := fun h => by have := heq h; omega
                      have d5 : decide (pv < qv) = false := by simp; omega
                      clear hpv hqv hle heq
                      have hcs : (u = false ∧ ((j : Int) == 14) = true) ∨ (u = false ∧ ((j : Int) == 14) = false ∧ (((j : Int) == 39) = true ∨ ((j : Int) == 39) = false) ∧ (pv != qv) = false) ∨ (u = true ∧ (((j : Int) == 14) = true ∨ ((j : Int) == 14) = false) ∧ ((j : Int) == 39) = true) ∨ (u = true ∧ (((j : Int) == 14) = true ∨ ((j : Int) == 14) = false) ∧ ((j : Int) == 39) = false ∧ (pv != qv) = false) := by
                        cases u
                        · by_cases h : j = 14
                          · exact .inl ⟨rfl, by simp; omega⟩
                          · exact .inr (.inl ⟨rfl, by simp; omega, by cases ((j : Int) == 39) <;> simp, by rw [heq2 h]; simp⟩)
                        · by_cases h : j = 39
                          · exact .inr (.inr (.inl ⟨rfl, by cases ((j : Int) == 14) <;> simp, by simp; omega⟩))
                          · exact .inr (.inr (.inr ⟨rfl, by cases ((j : Int) == 14) <;> simp, by simp; omega, by rw [heq2 h]; simp⟩))
                      have HJ := hid (And.intro hj hj64)
                      have ZZ := hid hZ
                      clear hZ hj hj64 heq2 hle2
                      rcases hcs with ⟨hu, e14⟩ | ⟨hu, e14, (e39 | e39), hpq⟩ | ⟨hu, (e14 | e14), e39⟩ | ⟨hu, (e14 | e14), e39, hpq⟩
                      all_goals
                        subst hu
                        go_wp2_with fail
                        refine (base4 _).mono ?_
                        rintro e w9 ⟨rfl, rfl⟩
                        go_wp2_with fail
                        try
                          refine (base8 _).mono ?_
                          rintro e w9 ⟨rfl, rfl⟩
                          go_wp2_with fail
                        go_quiet ((go_at_call 31; exact Calls.quiet_of_same (CQ.out _)))
                        all_goals
                          go_wp2_with fail
                          go_roundg (gk - 1)
                          case measure => have := HJ.out; omega
                          case rel => exact ⟨j + 1, by have := HJ.out; omega, by go_num, ZZ.out.below ⟨rfl, rfl, rfl, Nat.le_refl _, fun _ _ => rfl⟩⟩
                    · obtain rfl : j = 64 := by omega
                      have ZZ := hid hZ
                      clear hj hj64 hZ
                      go_wp2_with fail
                      go_roundg (gk0 - 1)
                      case measure => have := HI.out; omega
                      case rel => exact ⟨i + 1, s7, F7, m7, by have := HI.out; omega, by go_num, ZZ.out.c, by omega, Z7.out.2⟩
            · have hcv : codeV (checkNo zs) = .iface 35 (.int .i64 (checkNo zs)) := by unfold codeV; rw [if_neg hv]
              have HCV := hid hcv
              have HV := hid hv
              clear hv hcv
              have hf1 : (w5.alloc (.cells ((zerosL n).map intV).toArray 3)).cell? ⟨b4, o4 + i, none⟩ = some (.slice A4 zs.length c4) := (World.cell?_alloc_lt _ _ _ (Nat.lt_of_lt_of_le C0.out.2.1 Z.out.c.bel.size)).trans f1
              go_wp2_with fail
              have hal : Below w5.heap.size w5 (w5.alloc (.cells ((zerosL n).map intV).toArray 3)) := (Below.refl _ _).alloc (Nat.le_refl _) _
              have Z5 := hid (Z.out.below hal)
              clear hal f1 hf1
              refine (code_bad _ _ _ zs _ (by exact C0.out.2.2.below Z5.out.c.bel) (by omega) HV.out).mono ?_
              rintro e w6 ⟨rfl, rfl⟩
              rw [HCV.out]
              have FIN := hid (show ∀ j, j < 64 → s.P.getD j 0 ≤ s.P.getD j 0 ∧ (j ≠ baseOf u → s.P.getD j 0 = s.P.getD j 0) from fun j _ => ⟨Nat.le_refl _, fun _ => rfl⟩)
              go_wp2_with fail
              go_loopg [14] 64 (fun k iv wr => ∃ j : Nat, j + k = 64 ∧ iv = .int .i64 j ∧ ZW w b1 g0 s.P 64 s wr F)
              case atStart => exact ⟨0, by omega, rfl, Z5.out⟩
              case round =>
                obtain ⟨j, hj, rfl, hZ⟩ := hrel
                by_cases hj64 : j < 64
                · have d1 : decide ((j : Int) < 64) = true := by simp; omega
                  have hcq := hZ.a.cell hj64
                  have k2 : (0 : Int) ≤ (j : Int) := by omega
                  have k3 : (j : Int) < 64 := by omega
                  have CH := hid (fun W (h : AtWr b1 W F s) => wr_chance b1 W F s (j : Int) h O.out.2.P.len)
                  rw [chance_nat s.P j hj64] at CH
                  obtain ⟨hle, heq⟩ := FIN.out j hj64
                  obtain ⟨pv, hpv⟩ : ∃ z : Int, z = ((s.P.getD j 0 : Nat) : Int) := ⟨_, rfl⟩
                  obtain ⟨qv, hqv⟩ : ∃ z : Int, z = ((s.P.getD j 0 : Nat) : Int) := ⟨_, rfl⟩
                  rw [← hpv] at CH
                  have CQ := hid (show ∀ nn, Calls Tryd.prog 31 #[.pointer (some ⟨b1, 0, none⟩), .int .i64 (j : Int)] (wr.drewN nn) fun e w' => e = .returned (.int .i64 pv) ∧ w' = wr.drewN nn from fun nn => (CH.out (wr.drewN nn) ((hZ.below (W' := wr.drewN nn) ⟨rfl, rfl, rfl, Nat.le_refl _, fun _ _ => rfl⟩).c.a)).mono (fun _ _ h => And.intro h.1 h.2.symm))
                  rw [← hqv] at hcq
                  have hle2 : qv ≤ pv := by omega
                  have heq2 : j ≠ baseOf u → pv = qv := fun h => by have := heq h; omega
                  have d5 : decide (pv < qv) = false := by simp; omega
                  clear hpv hqv hle heq
                  have hcs : (u = false ∧ ((j : Int) == 14) = true) ∨ (u = false ∧ ((j : Int) == 14) = false ∧ (((j : Int) == 39) = true ∨ ((j : Int) == 39) = false) ∧ (pv != qv) = false) ∨ (u = true ∧ (((j : Int) == 14) = true ∨ ((j : Int) == 14) = false) ∧ ((j : Int) == 39) = true) ∨ (u = true ∧ (((j : Int) == 14) = true ∨ ((j : Int) == 14) = false) ∧ ((j : Int) == 39) = false ∧ (pv != qv) = false) := by
                    cases u
                    · by_cases h : j = 14
                      · exact .inl ⟨rfl, by simp; omega⟩
                      · exact .inr (.inl ⟨rfl, by simp; omega, by cases ((j : Int) == 39) <;> simp, by rw [heq2 h]; simp⟩)
                    · by_cases h : j = 39
                      · exact .inr (.inr (.inl ⟨rfl, by cases ((j : Int) == 14) <;> simp, by simp; omega⟩))
                      · exact .inr (.inr (.inr ⟨rfl, by cases ((j : Int) == 14) <;> simp, by simp; omega, by rw [heq2 h]; simp⟩))
                  have HJ := hid (And.intro hj hj64)
                  have ZZ := hid hZ
                  clear hZ hj hj64 heq2 hle2
                  rcases hcs with ⟨hu, e14⟩ | ⟨hu, e14, (e39 | e39), hpq⟩ | ⟨hu, (e14 | e14), e39⟩ | ⟨hu, (e14 | e14), e39, hpq⟩
                  all_goals
                    subst hu
                    go_wp2_with fail
                    refine (base4 _).mono ?_
                    rintro e w9 ⟨rfl, rfl⟩
                    go_wp2_with fail
                    try
                      refine (base8 _).mono ?_
                      rintro e w9 ⟨rfl, rfl⟩
                      go_wp2_with fail
                    go_quiet ((go_at_call 31; exact Calls.quiet_of_same (CQ.out _)))
                    all_goals
                      go_wp2_with fail
                      go_roundg (gk - 1)
                      case measure => have := HJ.out; omega
                      case rel => exact ⟨j + 1, by have := HJ.out; omega, by go_num, ZZ.out.below ⟨rfl, rfl, rfl, Nat.le_refl _, fun _ _ => rfl⟩⟩
                · obtain rfl : j = 64 := by omega
                  have ZZ := hid hZ
                  clear hj hj64 hZ
                  go_wp2_with fail
                  go_roundg (gk0 - 1)
                  case measure => have := HI.out; omega
                  case rel => exact ⟨i + 1, s, F, m, by have := HI.out; omega, by go_num, ZZ.out.c, by omega, O.out.2⟩
      · obtain rfl : i = l.length := by omega
        have e1 : decide ((l.length : Int) < (l.length : Int)) = false := by simp
        clear hown hok hik hlt
        go_wp2_with fail
        refine (first14 _ (by exact HG.out.1.below O.out.1.bel HG.out.2)).mono ?_
        rintro e w4 ⟨rfl, hb4⟩
        have B4 := hid (O.out.1.bel.trans (hb4.mono O.out.1.bel.size))
        clear hb4
        go_wp2_with fail
        go_ret
        exact ⟨rfl, B4.out⟩
end Go.Proofs.YtnlfnknkiggejaaDoor
