/- UnitSplits: the walk. -/
import Derived.Test.YtabklmkdneoaaaaDoorUnitsSame
import Derived.Test.YtabklmkdneoaaaaDoorULawLong
namespace Go.Proofs.YtabklmkdneoaaaaDoor
open Go.RowKit

/-- Data that may be written: of each its cells are there, in blocks of bytes of one's own. -/
structure Wr8 (w : World) (B : Nat) (ps : UV) : Prop where
  data : ∀ p ∈ ps, ∃ xs : List UInt8, w.ownsRow B 5 1 p.2 p.1.data.length (xs.map byteV) 
theorem OwnUnits.wr8 {w : World} {B : Nat} {lv : Value} {ps : UV} (h : OwnUnits w B lv ps) : Wr8 w B ps := ⟨fun p hp => ⟨_, h.data p hp⟩⟩
theorem Wr8.put {w : World} {B : Nat} {ps : UV} (h : Wr8 w B ps) (g j : Nat) (z : UInt8) : Wr8 (w.setCell ⟨g, j, none⟩ (byteV z)) B ps := by
  refine ⟨fun q hq => ?_⟩
  obtain ⟨xs, hx⟩ := h.data q hq
  by_cases e : q.2.ownBlock = some g
  · rcases hx.2 with ⟨h1, _⟩ | ⟨g0, cap0, cur, h1, h2, h3, h4, h5, h6, h7⟩
    · rw [h1] at e; simp [Value.ownBlock] at e
    · rw [h1] at e
      simp [Value.ownBlock] at e
      subst e
      have hc := Blk.put (t := 5) h3 j (byteV z)
      refine ⟨(xs.set j z), ?_⟩
      refine ⟨by simpa using hx.1, .inr ⟨g0, cap0, cur.setIfInBounds j (byteV z), h1, h2, hc, h4, h5, by simpa using h6, ?_⟩⟩
      rw [Array.toList_setIfInBounds, List.take_set, h7, map_set_byteV]
  · exact ⟨xs, own_keep2 (S := (· = g)) hx ((Only.refl (· = g) w).put (b := g) (by rfl) j _) (fun k hk hkg => e (by rw [hk, hkg]))⟩
/-- What UnitSplits holds from the split on: of what was there before nothing has turned; the row of units stands; their data may be written. -/
structure SW (w2 : World) (lv : Value) (ps : UV) (W : World) : Prop where
  bel : Below w2.heap.size w2 W
  row : W.ownsRow w2.heap.size 35 4 lv ps.length (unitCells ps)
  data : Wr8 W w2.heap.size ps
theorem SW.step {w2 W W' : World} {lv : Value} {ps : UV} (h : SW w2 lv ps W) (hb : Below W.heap.size W W') : SW w2 lv ps W' :=
  ⟨h.bel.trans (hb.mono h.bel.size), own_below h.row hb, ⟨fun p hp => by obtain ⟨xs, hx⟩ := h.data.data p hp; exact ⟨xs, own_below hx hb⟩⟩⟩
theorem SW.put {w2 W : World} {lv : Value} {ps : UV} (h : SW w2 lv ps W) {p : UnitS × Value} (hp : p ∈ ps) {g j : Nat} {z : UInt8} {cap : Nat} (hv : p.2 = .slice (some ⟨g, 0, none⟩) p.1.data.length cap) : SW w2 lv ps (W.setCell ⟨g, j, none⟩ (byteV z)) := by
  obtain ⟨xs, hx⟩ := h.data.data p hp
  have hg := hx.lt g (by rw [hv]; rfl)
  have ho : Only (· = g) W (W.setCell ⟨g, j, none⟩ (byteV z)) := (Only.refl (· = g) W).put (b := g) (by rfl) j _
  refine ⟨h.bel.trans ⟨ho.os, ho.tape, ho.output, ho.size, fun k hk => ho.block k (by have := h.bel.size; omega) (by show ¬ (_ = _); omega)⟩, own_keep2 h.row ho (fun k hk e => ?_), h.data.put g j z⟩
  have e' : k = g := e
  subst e'
  exact own_apart (B' := w2.heap.size) h.row hx (by decide) hk (by rw [hv]; rfl)
theorem SW.dcell {w2 W : World} {A : Option Addr} {n c : Nat} {ps : UV} (h : SW w2 (.slice A n c) ps W) {j : Nat} {p : UnitS × Value} (hp : ps[j]? = some p) : ∃ g, A = some ⟨g, 0, none⟩ ∧ W.cell? ⟨g, j * 4 + 1, none⟩ = some p.2 := by
  have hi := (List.getElem?_eq_some_iff.1 hp).1
  rcases h.row.2 with ⟨_, h0⟩ | ⟨g, cap, cur, he, _⟩
  · omega
  · injection he with h1 h2 h3
    subst h1
    refine ⟨g, rfl, ?_⟩
    have hr := h.row
    rw [h2] at hr
    exact (hr.cellAt (j * 4 + 1) (by omega)).trans (unitCells_at ps j p hp).2.1
theorem SW.dcell_at {w2 W : World} {g n c : Nat} {ps : UV} (h : SW w2 (.slice (some ⟨g, 0, none⟩) n c) ps W) {j : Nat} {p : UnitS × Value} (hp : ps[j]? = some p) : W.cell? ⟨g, j * 4 + 1, none⟩ = some p.2 := by
  obtain ⟨g', e, h1⟩ := h.dcell hp
  injection e with e
  injection e with e
  subst e
  exact h1
theorem own_len {W : World} {B n s : Nat} {t : TypeId} {v : Value} {xs : List Value} (h : W.ownsRow B t s v n xs) : n ≤ maxLen := by
  rcases h.2 with ⟨_, h0⟩ | ⟨g, cap, cur, he, _, _, h1, h2, _⟩
  · omega
  · omega
theorem own_cell {W : World} {B n c : Nat} {t : TypeId} {A : Option Addr} {xs : List Value} (h : W.ownsRow B t 1 (.slice A n c) n xs) {m : Nat} (hm : m < n) : ∃ g y, A = some ⟨g, 0, none⟩ ∧ W.cell? ⟨g, m, none⟩ = some y ∧ W.frozen? ⟨g, m, none⟩ = false := by
  rcases h.2 with ⟨_, h0⟩ | ⟨g, cap, cur, he, _⟩
  · omega
  · injection he with h1 h2 h3
    subst h1
    have hl : m < xs.length := by rw [h.1]; omega
    exact ⟨g, xs[m], rfl, (h.cellAt m (by omega)).trans (List.getElem?_eq_getElem hl), h.frozenAt m⟩
theorem usplits_big (A : Option Addr) (n c : Nat) (w : World) (hg : ErrT w) (hs : 20000 < n) :
    Calls Tryd.prog 7 #[.slice A n c] w fun e w' => e = .returned (.bool true) ∧ Below w.heap.size w w' := by
  have HG := hid (And.intro hg hg.lt)
  have hb' : decide ((20000 : Int) < (n : Int)) = true := by simp; omega
  clear hg hs
  go_enter Tryd.func7, Tryd.ntmps7
  go_wp2_with fail
  refine (ufirst_any _ HG.out.1).mono ?_
  rintro e w1 ⟨rfl, h1⟩
  have B1 := hid h1
  clear h1
  go_wp2_with fail
  refine (ufirst_any _ (HG.out.1.below B1.out HG.out.2)).mono ?_
  rintro e w2 ⟨rfl, h1⟩
  have B2 := hid h1
  clear h1
  go_wp2_with fail
  go_ret
  exact ⟨rfl, B1.out.trans (B2.out.mono B1.out.size)⟩
set_option maxRecDepth 100000 in
set_option maxHeartbeats 4000000 in
theorem usplits_walk (x : Value) (bs : List UInt8) (w : World) (hx : Byt w x bs) (_ : bs.length ≤ maxLen) (hg : ErrT w) :
    Calls Tryd.prog 7 #[x] w fun e w' => e = .returned (.bool true) ∧ Below w.heap.size w w' := by
  obtain ⟨A, c, rfl, hc⟩ := hx.form
  by_cases hbig : 20000 < bs.length
  · exact usplits_big A bs.length c w hg hbig
  · have hb' : decide ((20000 : Int) < (bs.length : Int)) = false := by simp; omega
    have HL := hid (show bs.length ≤ 1000000 by omega)
    have HG := hid (And.intro hg hg.lt)
    have X := hid hx
    clear hbig hg hx hc
    go_enter Tryd.func7, Tryd.ntmps7
    go_wp2_with fail
    refine (ufirst_any _ HG.out.1).mono ?_
    rintro e w1 ⟨rfl, h1⟩
    have B1 := hid h1
    clear h1
    go_wp2_with fail
    refine (copy_bytes _ bs _ (X.out.below B1.out).from_ (by have := HL.out; omega)).mono ?_
    rintro e w2 ⟨g, cap, rfl, ho, h2⟩
    have B2 := hid (B1.out.trans (h2.mono B1.out.size))
    have I2 := hid (And.intro (Byt.of_own ho rfl) (And.intro (X.out.below B2.out) (HG.out.1.below B2.out HG.out.2)))
    clear ho h2
    go_wp2_with fail
    refine (usplit_any _ bs _ (by exact I2.out.1) HL.out).mono ?_
    rintro e w3 ⟨lv, ps, ev, us, er, rfl, hU, hps, hO, h3, hev⟩
    obtain ⟨A3, c3, rfl⟩ := own_slice hO.row
    have U3 := hid (And.intro hU (And.intro hps (And.intro hO h3)))
    have E3 := hid hev
    clear hU hps hO h3 hev
    go_wp2_with fail
    refine (rsplit_any _ bs _ (by exact I2.out.2.1.below U3.out.2.2.2) HL.out).mono ?_
    rintro e w4 ⟨lv2, qs, pv, us2, er2, rfl, hU2, hqs, hO2, h4, hev2⟩
    obtain ⟨rfl, rfl⟩ : us = us2 ∧ er = er2 := by
      have := U3.out.1.symm.trans hU2
      injection this with h5 h6
      exact ⟨h5, h6⟩
    obtain ⟨A4, c4, rfl⟩ := own_slice hO2.row
    have key : ∃ cv A9 n9 c9, codeU er = cv ∧ pv = .slice A9 n9 c9 ∧ ∀ W, Below w4.heap.size w4 W → ErrT W → Calls Tryd.prog 23 #[ev, .agg #[.int .i64 cv, .slice A9 n9 c9]] W fun e w' => e = .returned (.bool true) ∧ Below W.heap.size W w' := by
      have hev := E3.out
      rcases er with _ | ⟨q, cc⟩
      · dsimp only at hev hev2
        subst hev hev2
        exact ⟨0, none, 0, 0, rfl, rfl, fun W _ hT => err_same 0 W hT⟩
      · dsimp only at hev hev2
        obtain ⟨A9, c9, rfl, _⟩ := id hev2
        exact ⟨cc, A9, q.length, c9, rfl, rfl, fun W hb hT => err_path cc q ev _ W ((hev.1.below h4).below hb) (hev2.below hb) hT hev.2.1 hev.2.2⟩
    obtain ⟨cv, A9, n9, c9, hcv, rfl, hkey⟩ := key
    rw [hcv]
    have K4 := hid hkey
    have hps2 : ps.map Prod.fst = qs.map Prod.fst := U3.out.2.1.trans hqs.symm
    have hpl : ps.length ≤ 1000000 := by
      have h5 := splitU_len bs bs.length 0
      have h6 : (splitU bs bs.length 0).1 = us := congrArg Prod.fst U3.out.1
      have h7 := congrArg List.length U3.out.2.1
      rw [h6] at h5
      rw [List.length_map] at h7
      have := HL.out
      omega
    have R4 := hid (And.intro (U3.out.2.2.1.reads.below h4) (And.intro hO2.reads (And.intro hps2 hpl)))
    have S4 := hid (SW.step ⟨U3.out.2.2.2, U3.out.2.2.1.row, U3.out.2.2.1.wr8⟩ h4)
    have hql : qs.length = ps.length := by have := congrArg List.length hps2; simpa using this.symm
    clear hU2 hqs hO2 h4 hev2 hkey hcv hps2 hpl
    rw [hql] at R4 ⊢
    clear hql
    go_wp2_with fail
    have hbe : Below w4.heap.size w4 (w4.alloc (.cells #[.int .i64 cv, .slice A9 n9 c9] 32)) := (Below.refl _ _).alloc (Nat.le_refl _) _
    refine (units_same _ _ ps qs _ (by exact R4.out.1.below hbe) (by exact R4.out.2.1.below hbe) R4.out.2.2.1 R4.out.2.2.2).mono ?_
    rintro e w5 ⟨rfl, h5⟩
    have hbe5 := hbe.trans (h5.mono (by simp))
    have S5 := hid (And.intro (S4.out.step hbe5) (And.intro hbe5 ((Blk.new w4 32 #[.int .i64 cv, .slice A9 n9 c9]).below h5 (by simp))))
    have e0 := S5.out.2.2.cell 0
    have e1 := S5.out.2.2.cell 1
    simp at e0 e1
    clear hbe h5 hbe5
    go_wp2_with fail
    refine (K4.out _ (by exact S5.out.2.1) (by exact I2.out.2.2.below S5.out.1.bel I2.out.2.2.lt)).mono ?_
    rintro e w6 ⟨rfl, h6⟩
    have S6 := hid (S5.out.1.step h6)
    clear h6 e0 e1
    go_wp2_with fail
    refine (bytes_same (bs := bs) (by exact (I2.out.1.below S6.out.bel).from_) (by exact (I2.out.2.1.below S6.out.bel).from_)).mono ?_
    rintro e w7 ⟨rfl, rfl⟩
    go_wp2_with fail
    go_loopg [8, 9] ps.length (fun k iv _ wr => ∃ j : Nat, j + k = ps.length ∧ iv = .int .i64 j ∧ SW w2 (.slice A3 ps.length c3) ps wr)
    case atStart => exact ⟨0, by omega, rfl, S6.out⟩
    case round =>
      obtain ⟨j, hj, rfl, hS⟩ := hrel
      have hpl := R4.out.2.2.2
      by_cases hlt : j < ps.length
      · obtain ⟨⟨u, d⟩, hp⟩ : ∃ p, ps[j]? = some p := ⟨ps[j], List.getElem?_eq_getElem hlt⟩
        obtain ⟨g0, rfl, _⟩ := hS.dcell hp
        have hmem := List.mem_of_getElem? hp
        have hform : ∃ A5 c5, d = .slice A5 u.data.length c5 := by
          obtain ⟨xs, hx⟩ := hS.data.data _ hmem
          exact own_slice hx
        obtain ⟨A5, c5, rfl⟩ := hform
        have PJ := hid (And.intro hp (And.intro hmem hj))
        have S8 := hid hS
        clear hS hj hp hmem
        have k0 : (0 : Int) ≤ (j : Int) := by omega
        have k1 : (j : Int) < (ps.length : Int) := by omega
        go_wp2_with fail
        obtain ⟨g1, rfl⟩ : ∃ g1, g1 = gk := ⟨_, rfl⟩
        go_loopg [9] u.data.length (fun k iv wr2 => ∃ m : Nat, m + k = u.data.length ∧ iv = .int .i64 m ∧ SW w2 (.slice (some ⟨g0, 0, none⟩) ps.length c3) ps wr2)
        case atStart => exact ⟨0, by omega, rfl, S8.out⟩
        case round =>
          obtain ⟨m, hm, rfl, hS⟩ := hrel
          have hd := (hS.dcell_at PJ.out.1)
          dsimp only at hd
          by_cases hlm : m < u.data.length
          · obtain ⟨xs, hx⟩ := hS.data.data _ PJ.out.2.1
            dsimp only at hx
            obtain ⟨g5, y5, rfl, hc5, hf5⟩ := own_cell hx hlm
            have S9 := hid (And.intro hS hm)
            have ML := hid (own_len hx)
            clear hS hm hx
            go_wp2_with fail
            have hm := S9.out.2
            have hml := ML.out
            unfold maxLen at hml
            go_roundg (gk - 1)
            case measure => omega
            case rel =>
              refine ⟨m + 1, by omega, by rw [IntWalk.wrap64_in _ (by constructor <;> omega)]; rfl, ?_⟩
              have hput := S9.out.1.put PJ.out.2.1 (g := g5) (j := m) (z := 88) (cap := c5) rfl
              exact hput
          · have hn : decide ((m : Int) < (u.data.length : Int)) = false := by simp; omega
            have S9 := hid hS
            clear hS hm
            go_wp2_with fail
            have hj := PJ.out.2.2
            go_roundg (g1 - 1)
            case measure => omega
            case rel => exact ⟨j + 1, by omega, by go_num, S9.out⟩
      · have hge : ps.length ≤ j := by omega
        have hn : decide ((j : Int) < (ps.length : Int)) = false := by simp; omega
        have S8 := hid hS
        clear hS
        go_wp2_with fail
        refine (ufirst_any _ (by exact I2.out.2.2.below S8.out.bel I2.out.2.2.lt)).mono ?_
        rintro e w8 ⟨rfl, h8⟩
        have S9 := hid (S8.out.step h8)
        clear h8
        go_wp2_with fail
        refine (bytes_same (bs := bs) (by exact (I2.out.1.below S9.out.bel).from_) (by exact (I2.out.2.1.below S9.out.bel).from_)).mono ?_
        rintro e w10 ⟨rfl, rfl⟩
        go_wp2_with fail
        go_ret
        exact ⟨rfl, B2.out.trans (S9.out.bel.mono B2.out.size)⟩
end Go.Proofs.YtabklmkdneoaaaaDoor
