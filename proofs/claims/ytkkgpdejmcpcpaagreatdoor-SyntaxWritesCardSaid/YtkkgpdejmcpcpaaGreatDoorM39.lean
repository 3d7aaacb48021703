/- Parts: XHeadB, XFirst20, XOpenByt. -/
import Derived.Test.YtkkgpdejmcpcpaaGreatDoorM38
import Derived.Test.YtkkgpdejmcpcpaaGreatDoorM21
import Derived.Test.YtkkgpdejmcpcpaaGreatDoorRows
import Derived.Test.YtkkgpdejmcpcpaaGreatDoorM02
import Derived.ProofKit
import Derived.OpenShut
import Derived.ShutString
import Derived.ChangeOld
import Derived.Deep.Slices
import Derived.Deep.Fields
/- Chapter 20: heads: syntax.Read, syntax.Cost. -/
namespace Go.Proofs.YtkkgpdejmcpcpaaGreatDoor
open Go.RowKit

def readNo (k : Int) (bs : List UInt8) : Int := if k < 1 ∨ 4 < k then 13 else if 2 < k then (if 0 < bs.length then 2 else 0) else if bs.length = 0 then 1 else if 15 < (bs.getD 0 0).toNat then 3 else if 65536 < bs.length then 5 else 0
def readQ (k : Int) (bs : List UInt8) : Int := if 2 < k then 0 else ((bs.getD 0 0).toNat : Nat)
def readB (k : Int) (bs : List UInt8) : List UInt8 := if 2 < k then [] else bs.drop 1
def HReadRes (no k q : Int) (bs : List UInt8) (w : World) (e : Ending) (w' : World) : Prop :=
  ∃ v, e = .returned (.tuple #[.agg #[.int .i64 (if no = 0 then k else 0), .int .i64 (if no = 0 then q else 0), v], codeV no]) ∧ Byt w' v (if no = 0 then bs else []) ∧ Below w.heap.size w w'
theorem HReadRes.bad {no k q : Int} {bs : List UInt8} {w w' : World} {e : Ending} (h : no ≠ 0) (he : e = .returned (.tuple #[.agg #[.int .i64 0, .int .i64 0, .slice none 0 0], .iface 43 (.int .i64 no)])) (hb : Below w.heap.size w w') : HReadRes no k q bs w e w' :=
  ⟨.slice none 0 0, by rw [he, if_neg h, if_neg h]; unfold codeV; rw [if_neg h], by rw [if_neg h]; exact byt_nil _, hb⟩
theorem HReadRes.good {k q : Int} {bs : List UInt8} {w w' : World} {e : Ending} {v : Value} (he : e = .returned (.tuple #[.agg #[.int .i64 k, .int .i64 q, v], .nilIface])) (hv : Byt w' v bs) (hb : Below w.heap.size w w') : HReadRes 0 k q bs w e w' :=
  ⟨v, by rw [he, if_pos rfl, if_pos rfl]; rfl, by rw [if_pos rfl]; exact hv, hb⟩
theorem usize_any (n : Int) (h : 0 ≤ n ∧ n ≤ 140737488355328) (w : World) : Calls Tryz.prog 54 #[.int .i64 n] w fun e w' => e = .returned (.int .i64 (n + 8)) ∧ w' = w := by
  have hw : IntKind.i64.wrap (n + 8) = n + 8 := IntWalk.i64_in _ (by omega)
  go_enter Tryz.func54, Tryz.ntmps54
  go_wp2_with fail
  go_ret
  exact ⟨rfl, rfl⟩
theorem cost_any (k : Int) (x : Value) (bs : List UInt8) (w : World) (hx : Byt w x bs) (hl : bs.length ≤ 140737488355328) :
    Calls Tryz.prog 24 #[.agg #[.int .i64 k, x]] w fun e w' => e = .returned (.int .i64 ((bs.length : Int) + 8)) ∧ Below w.heap.size w w' := by
  obtain ⟨A, c, rfl, hc⟩ := hx.form
  have B1 := hid (show Below w.heap.size w (w.alloc (.cells #[.int .i64 k, .slice A bs.length c] 67)) from (Below.refl _ _).alloc (Nat.le_refl _) _)
  clear hx
  go_enter Tryz.func24, Tryz.ntmps24
  go_wp2_with (go_at_call 54; refine (usize_any _ (by omega) _).mono ?_; rintro e w2 ⟨rfl, rfl⟩)
  go_ret
  exact ⟨rfl, B1.out⟩
set_option maxRecDepth 100000 in
set_option maxHeartbeats 4000000 in
theorem read_any (k : Int) (x : Value) (bs : List UInt8) (w : World) (hx : Byt w x bs) (hl : bs.length ≤ 140737488355328) :
    Calls Tryz.prog 23 #[.agg #[.int .i64 k, x]] w (HReadRes (readNo k bs) k (readQ k bs) (readB k bs) w) := by
  obtain ⟨i0, hi0, hz0, hz1, hz2⟩ := info_parts info_u8
  have IP := hid (And.intro hi0 (And.intro hz0 (And.intro hz1 hz2)))
  clear hi0 hz0 hz1 hz2
  obtain ⟨A, c, rfl, hc⟩ := hx.form
  have X := hid hx
  have HK := hid (fun W => skind_any k W)
  have HB := hid (fun W => sbare_any k W)
  clear hx
  have PN := hid (show readNo k bs = if k < 1 ∨ 4 < k then 13 else if 2 < k then (if 0 < bs.length then 2 else 0) else if bs.length = 0 then 1 else if 15 < (bs.getD 0 0).toNat then 3 else if 65536 < bs.length then 5 else 0 from rfl)
  generalize readNo k bs = no at *
  have BB := hid (show ∀ o1 o2 : Obj, Below w.heap.size w ((w.alloc o1).alloc o2) from fun o1 o2 => ((Below.refl _ _).alloc (Nat.le_refl _) _).alloc (by simp) _)
  by_cases h1 : k < 1 ∨ 4 < k
  · have e1 : isKind k = false := by unfold isKind; rcases h1 with h | h <;> simp <;> omega
    rw [e1] at HK
    have N := hid (show no = 13 by rw [PN.out, if_pos h1])
    clear h1 e1 PN
    go_enter Tryz.func23, Tryz.ntmps23
    go_wp2_with (go_at_call 52; refine (HK.out _).mono ?_; rintro e w2 ⟨rfl, rfl⟩)
    rw [N.out]
    exact bodyPost_ret (v := .tuple #[.agg #[.int .i64 0, .int .i64 0, .slice none 0 0], .iface 43 (.int .i64 13)]) (by simp [results, Tryz.results23, go_sem]) rfl (HReadRes.bad (by decide) rfl (BB.out _ _))
  · have e1 : isKind k = true := by unfold isKind; simp; omega
    rw [e1] at HK
    by_cases h3 : 2 < k
    · have e2 : isBare k = true := by unfold isBare; simp; omega
      rw [e2] at HB
      by_cases h4 : 0 < bs.length
      · have N := hid (show no = 2 by rw [PN.out, if_neg h1, if_pos h3, if_pos h4])
        have d3 : decide ((0 : Int) < (bs.length : Int)) = true := by simp; omega
        have d4 : decide (0 < bs.length) = true := by simp; omega
        clear h1 e1 PN e2 h3
        go_enter Tryz.func23, Tryz.ntmps23
        go_wp2_with (first
          | (go_at_call 52; refine (HK.out _).mono ?_; rintro e w2 ⟨rfl, rfl⟩)
          | (go_at_call 53; refine (HB.out _).mono ?_; rintro e w3 ⟨rfl, rfl⟩))
        rw [N.out]
        exact bodyPost_ret (v := .tuple #[.agg #[.int .i64 0, .int .i64 0, .slice none 0 0], .iface 43 (.int .i64 2)]) (by simp [results, Tryz.results23, go_sem]) rfl (HReadRes.bad (by decide) rfl (BB.out _ _))
      · have N := hid (show no = 0 by rw [PN.out, if_neg h1, if_pos h3, if_neg h4])
        have hb0 : bs.length = 0 := by omega
        have hp : readB k bs = [] := by unfold readB; rw [if_pos h3]
        have hq : readQ k bs = 0 := by unfold readQ; rw [if_pos h3]
        rw [hp, hq, hb0]
        clear h1 e1 PN e2 h3 hp hq
        go_enter Tryz.func23, Tryz.ntmps23
        go_wp2_with (first
          | (go_at_call 52; refine (HK.out _).mono ?_; rintro e w2 ⟨rfl, rfl⟩)
          | (go_at_call 53; refine (HB.out _).mono ?_; rintro e w3 ⟨rfl, rfl⟩))
        rw [N.out]
        exact bodyPost_ret (v := .tuple #[.agg #[.int .i64 k, .int .i64 0, .slice none 0 0], .nilIface]) (by simp [results, Tryz.results23, go_sem]) rfl (HReadRes.good rfl (byt_nil _) (BB.out _ _))
    · have e2 : isBare k = false := by unfold isBare; simp; omega
      rw [e2] at HB
      by_cases h4 : bs.length = 0
      · have N := hid (show no = 1 by rw [PN.out, if_neg h1, if_neg h3, if_pos h4])
        rw [h4]
        clear h1 e1 PN e2 h3
        go_enter Tryz.func23, Tryz.ntmps23
        go_wp2_with (first
          | (go_at_call 52; refine (HK.out _).mono ?_; rintro e w2 ⟨rfl, rfl⟩)
          | (go_at_call 53; refine (HB.out _).mono ?_; rintro e w3 ⟨rfl, rfl⟩))
        rw [N.out]
        exact bodyPost_ret (v := .tuple #[.agg #[.int .i64 0, .int .i64 0, .slice none 0 0], .iface 43 (.int .i64 1)]) (by simp [results, Tryz.results23, go_sem]) rfl (HReadRes.bad (by decide) rfl (BB.out _ _))
      · obtain ⟨b, off, u, hA, hbw, hu, hcell⟩ := X.out.at_ (j := 0) (by omega)
        subst hA
        have hug : bs.getD 0 0 = u := by rw [List.getD_eq_getElem?_getD, hu]; rfl
        rw [hug] at PN
        have hcell0 : w.cell? ⟨b, off, none⟩ = some (.int .u8 u.toNat) := by simpa using hcell
        have hl0 : ((bs.length : Int) == 0) = false := by simp; intro h; exact h4 (by rw [h]; rfl)
        have hl1 : (0 : Int) < (bs.length : Int) := by omega
        have hl2 : 0 < bs.length := by omega
        have hb2 : b ≠ w.heap.size ∧ b ≠ w.heap.size + 1 := by omega
        by_cases h5 : 15 < u.toNat
        · have N := hid (show no = 3 by rw [PN.out, if_neg h1, if_neg h3, if_neg h4, if_pos h5])
          have d5 : decide ((15 : Int) < (u.toNat : Int)) = true := by simp; omega
          have d6 : decide (15 < u.toNat) = true := by simp; omega
          clear h1 e1 PN e2 h3 h4 h5 hu hcell hug
          go_enter Tryz.func23, Tryz.ntmps23
          go_wp2_with (first
            | (go_at_call 52; refine (HK.out _).mono ?_; rintro e w2 ⟨rfl, rfl⟩)
            | (go_at_call 53; refine (HB.out _).mono ?_; rintro e w3 ⟨rfl, rfl⟩))
          rw [N.out]
          exact bodyPost_ret (v := .tuple #[.agg #[.int .i64 0, .int .i64 0, .slice none 0 0], .iface 43 (.int .i64 3)]) (by simp [results, Tryz.results23, go_sem]) rfl (HReadRes.bad (by decide) rfl (BB.out _ _))
        · have d5 : decide ((15 : Int) < (u.toNat : Int)) = false := by simp; omega
          have d6 : decide (15 < u.toNat) = false := by simp; omega
          by_cases h6 : 65536 < bs.length
          · have N := hid (show no = 5 by rw [PN.out, if_neg h1, if_neg h3, if_neg h4, if_neg h5, if_pos h6])
            have d7 : decide ((65536 : Int) < (bs.length : Int)) = true := by simp; omega
            have d8 : decide (65536 < bs.length) = true := by simp; omega
            clear h1 e1 PN e2 h3 h4 h5 hu hcell hug h6
            go_enter Tryz.func23, Tryz.ntmps23
            go_wp2_with (first
              | (go_at_call 52; refine (HK.out _).mono ?_; rintro e w2 ⟨rfl, rfl⟩)
              | (go_at_call 53; refine (HB.out _).mono ?_; rintro e w3 ⟨rfl, rfl⟩))
            rw [N.out]
            exact bodyPost_ret (v := .tuple #[.agg #[.int .i64 0, .int .i64 0, .slice none 0 0], .iface 43 (.int .i64 5)]) (by simp [results, Tryz.results23, go_sem]) rfl (HReadRes.bad (by decide) rfl (BB.out _ _))
          · have N := hid (show no = 0 by rw [PN.out, if_neg h1, if_neg h3, if_neg h4, if_neg h5, if_neg h6])
            have d7 : decide ((65536 : Int) < (bs.length : Int)) = false := by simp; omega
            have d8 : decide (65536 < bs.length) = false := by simp; omega
            have hq : readQ k bs = (u.toNat : Nat) := by unfold readQ; rw [if_neg h3, hug]
            have hp : readB k bs = bs.drop 1 := by unfold readB; rw [if_neg h3]
            rw [hq, hp]
            have hw7 : IntKind.i64.wrap (u.toNat : Int) = (u.toNat : Int) := IntWalk.i64_in _ (by have := u.toNat_lt; omega)
            have hl3 : bs.length ≤ 65536 := by omega
            have hdl : (bs.drop 1).length = bs.length - 1 := by simp
            obtain ⟨o2, ho2⟩ : ∃ o2 : Nat, o2 = if c = 1 then off else off + 1 := ⟨_, rfl⟩
            have hfr : From w 1 (.slice (some ⟨b, o2, none⟩) (bs.length - 1) (c - 1)) (bs.length - 1) ((bs.drop 1).map byteV) := by
              refine ⟨_, _, rfl, by simp, fun h0 => ?_⟩
              have hc1 : c ≠ 1 := by omega
              rw [if_neg hc1] at ho2
              subst ho2
              obtain ⟨A, cc, hA, _, hcc⟩ := (X.out.dropAt (k := 1) (by omega)).from_
              rw [hdl] at hA hcc
              obtain ⟨ad, h7, h8⟩ := hcc h0
              injection hA with hA1 hA2 hA3
              subst hA1
              cases h7
              exact ⟨_, rfl, h8⟩
            have hix : ∀ W : World, (Instr.indexAt 53 (.slice (some ⟨b, off, none⟩) bs.length c) (.int .i64 0)).run Tryz.prog W = .ok (.pointer (some ⟨b, off, none⟩)) W := by
              intro W
              go_simp
            have hsl : ∀ W : World, (Instr.sliceAt 53 (.slice (some ⟨b, off, none⟩) bs.length c) (some (.int .i64 1)) none none).run Tryz.prog W = .ok (.slice (some ⟨b, o2, none⟩) (bs.length - 1) (c - 1)) W := by
              intro W
              have e : (if c = 1 then (some ⟨b, off, none⟩ : Option Addr) else some ⟨b, off + 1, none⟩) = some ⟨b, o2, none⟩ := by rw [ho2]; split <;> rfl
              have h1' : (1 : Int) ≤ (bs.length : Int) := by omega
              have h2' : 1 ≤ bs.length := by omega
              go_simp
              try rw [e]
            clear h1 e1 PN e2 h3 h4 h5 hu hcell h6 hl hug hp hq
            generalize bs.drop 1 = bd at *
            go_enter Tryz.func23, Tryz.ntmps23
            go_wp2_with (first
              | (go_at_call 52; refine (HK.out _).mono ?_; rintro e w2 ⟨rfl, rfl⟩)
              | (go_at_call 53; refine (HB.out _).mono ?_; rintro e w3 ⟨rfl, rfl⟩))
            have hh := (Blk.new w 67 #[.int .i64 k, .slice (some ⟨b, off, none⟩) bs.length c]).alloc (.cells #[.int .i64 0, .int .i64 0, .slice none 0 0] 71)
            have hcd := Blk.newAt' (n := w.heap.size + 1) (w.alloc (.cells #[.int .i64 k, .slice (some ⟨b, off, none⟩) bs.length c] 67)) 71 #[.int .i64 0, .int .i64 0, .slice none 0 0] (by simp)
            have hsz : ((w.alloc (.cells #[.int .i64 k, .slice (some ⟨b, off, none⟩) bs.length c] 67)).alloc (.cells #[.int .i64 0, .int .i64 0, .slice none 0 0] 71)).heap.size = w.heap.size + 2 := by simp
            have hb2 := BB.out (.cells #[.int .i64 k, .slice (some ⟨b, off, none⟩) bs.length c] 67) (.cells #[.int .i64 0, .int .i64 0, .slice none 0 0] 71)
            generalize ((w.alloc _).alloc _ : World) = w2 at *
            have W2 := hid (And.intro hh (And.intro hcd (And.intro hsz hb2)))
            have hcells : ∀ W, Blk W w.heap.size 67 #[.int .i64 k, .slice (some ⟨b, off, none⟩) bs.length c] → Below w.heap.size w W → W.cell? ⟨w.heap.size, 0, none⟩ = some (.int .i64 k) ∧ W.cell? ⟨w.heap.size, 1, none⟩ = some (.slice (some ⟨b, off, none⟩) bs.length c) ∧ W.cell? ⟨b, off, none⟩ = some (.int .u8 u.toNat) := by
              intro W h hb
              refine ⟨by rw [h.cell]; rfl, by rw [h.cell]; rfl, (hb.cell (p := ⟨b, off, none⟩) hbw).trans hcell0⟩
            have HC := hid hcells
            have k2 := hcells _ hh hb2
            have k2d := hcells _ hh.drew hb2.drew
            have hb3 : ∀ o : Obj, Below w.heap.size w (w2.alloc o) := fun o => hb2.alloc (by omega) o
            have k3 := hcells _ (hh.drew.alloc (.cells #[] 5)) (hb2.drew.alloc (by show w.heap.size ≤ w2.heap.size; omega) _)
            have k3d := hcells _ (hh.alloc (.cells #[] 5)) (hb3 _)
            have k5d := hcells _ (hh.alloc (.cells #[] 5)).drew (hb3 _).drew
            have OL := hid (World.ownsRow_lit (size := 1) (base := w2.heap.size) (e := 5) w2 #[] 0 (Nat.le_refl _) (by unfold maxLen; omega) rfl)
            have OLd := hid (World.ownsRow_lit (size := 1) (base := w2.heap.size) (e := 5) w2.drew #[] 0 (Nat.le_refl _) (by unfold maxLen; omega) rfl)
            have FR : Hid (∀ W, Below w.heap.size w W → From W 1 (.slice (some ⟨b, o2, none⟩) (bs.length - 1) (c - 1)) (bs.length - 1) (bd.map byteV)) := fun W hb => by
              obtain ⟨A, cc, h1, h2, h3⟩ := hfr
              refine ⟨A, cc, h1, h2, fun h0 => ?_⟩
              obtain ⟨ad, h4, h5⟩ := h3 h0
              refine ⟨ad, h4, fun j u hu => ?_⟩
              have := h5 j u hu
              rw [hb.cell (World.block_lt_of_cell? _ _ this)]
              exact this
            have B3 := hid (hb3 (.cells #[] 5))
            have B3d := hid (show Below w.heap.size w (w2.drew.alloc (.cells #[] 5)) from hb2.drew.alloc (by show w.heap.size ≤ w2.heap.size; omega) _)
            clear hcells hh hcd hsz hb2 hb3 hfr ho2 hbw hcell0
            go_region_held_law (fun W => W.cell? ⟨w.heap.size, 0, none⟩ = some (.int .i64 k) ∧ W.cell? ⟨w.heap.size, 1, none⟩ = some (.slice (some ⟨b, off, none⟩) bs.length c) ∧ W.cell? ⟨b, off, none⟩ = some (.int .u8 u.toNat)) (first | exact k6 | exact k4 | exact k3 | exact k2 | exact k2d | exact k3d | exact k5d)
              (first
                | ((refine step_append_form _ (by rfl) (.tmp 59) (.tmp 62) _ (by rfl) w2.heap.size 5 i0 (.int .u8 0) 1 1 Tryz.underlying53 IP.out.1 IP.out.2.1 IP.out.2.2.1 IP.out.2.2.2 rfl (by omega) (.slice (some ⟨w2.heap.size, 0, none⟩) 0 0) 0 [] (by rfl) (by first | exact OL.out | exact OL.out.drew | exact OLd.out) (.slice (some ⟨b, o2, none⟩) (bs.length - 1) (c - 1)) (bs.length - 1) (bd.map byteV) (by rfl) (by first | exact FR.out _ B3.out | exact FR.out _ B3.out.drew | exact FR.out _ B3d.out) (one_bytes _) (.inl (by simp [Value.ownBlock])) (by unfold maxLen; omega) (by omega) (by simp) (bs.length - 1) (bd.map byteV) (by simp) (by simp) ?_)
                   intro g cap w4 hown hgrow hat hlt
                   have hbel : Below w2.heap.size w2 w4 := by
                     first
                       | exact (((Below.refl w2.heap.size w2).alloc (Nat.le_refl _) _).drew).grown hgrow (by simp) (fun k hk => by simp [Value.ownBlock] at hk; omega)
                       | exact (((Below.refl w2.heap.size w2).drew).alloc (Nat.le_refl _) _).grown hgrow (by simp) (fun k hk => by simp [Value.ownBlock] at hk; omega)
                       | exact ((Below.refl w2.heap.size w2).alloc (Nat.le_refl _) _).grown hgrow (by simp) (fun k hk => by simp [Value.ownBlock] at hk; omega)
                   have hb4 : Below w.heap.size w w4 := W2.out.2.2.2.trans (hbel.mono (by have := W2.out.2.2.1; omega))
                   have h4 := W2.out.1.below hbel (by have := W2.out.2.2.1; omega)
                   have k4 := HC.out _ h4 hb4
                   have k6 := HC.out _ (((h4.far (p := ⟨w.heap.size + 1, 0, none⟩) (by show w.heap.size ≠ w.heap.size + 1; omega) (.int .i64 k)).far (p := ⟨w.heap.size + 1, 1, none⟩) (by show w.heap.size ≠ w.heap.size + 1; omega) (.int .i64 (u.toNat : Nat))).far (p := ⟨w.heap.size + 1, 2, none⟩) (by show w.heap.size ≠ w.heap.size + 1; omega) (.slice (some ⟨g, 0, none⟩) (bs.length - 1) cap)) (((hb4.setCell (p := ⟨w.heap.size + 1, 0, none⟩) (by show w.heap.size ≤ w.heap.size + 1; omega) _).setCell (p := ⟨w.heap.size + 1, 1, none⟩) (by show w.heap.size ≤ w.heap.size + 1; omega) _).setCell (p := ⟨w.heap.size + 1, 2, none⟩) (by show w.heap.size ≤ w.heap.size + 1; omega) _)
                   clear h4
                   have hc4 := W2.out.2.1.below hbel (by have := W2.out.2.2.1; omega)
                   have e0 := hc4.cell 0
                   have e1 := hc4.cell 1
                   have e2 := hc4.cell 2
                   have ef0 := hc4.frozen 0
                   have ef1 := hc4.frozen 1
                   have ef2 := hc4.frozen 2
                   simp at e0 e1 e2
                   have K4 := hid (And.intro hown (And.intro hb4 hc4))
                   clear hown hgrow hat hlt hbel hc4 hb4))
            have hz := (((K4.out.2.2.put 0 (.int .i64 k)).put 1 (.int .i64 (u.toNat : Nat))).put 2 (.slice (some ⟨g, 0, none⟩) (bs.length - 1) cap))
            have z0 := hz.cell 0
            have z1 := hz.cell 1
            have z2 := hz.cell 2
            simp at z0 z1 z2
            go_wp2_with fail
            rw [N.out]
            exact bodyPost_ret (v := .tuple #[.agg #[.int .i64 k, .int .i64 (u.toNat : Nat), .slice (some ⟨g, 0, none⟩) (bs.length - 1) cap], .nilIface]) (by simp [results, Tryz.results23, go_sem, z0, z1, z2]) rfl (HReadRes.good rfl (by
              refine Byt.only (S := fun j => j = w.heap.size + 1) (Byt.of_own (bs := bd) K4.out.1 hdl) (Only.put (S := fun j => j = w.heap.size + 1) (Only.put (S := fun j => j = w.heap.size + 1) (Only.put (S := fun j => j = w.heap.size + 1) (Only.refl _ _) rfl 0 _) rfl 1 _) rfl 2 _) (fun j hj e => ?_)
              have := (K4.out.1.lt j hj).1
              have := W2.out.2.2.1
              omega) (((K4.out.2.1.setCell (p := ⟨w.heap.size + 1, 0, none⟩) (by show w.heap.size ≤ w.heap.size + 1; omega) _).setCell (p := ⟨w.heap.size + 1, 1, none⟩) (by show w.heap.size ≤ w.heap.size + 1; omega) _).setCell (p := ⟨w.heap.size + 1, 2, none⟩) (by show w.heap.size ≤ w.heap.size + 1; omega) _))
end Go.Proofs.YtkkgpdejmcpcpaaGreatDoor

/- Chapter 20: kinlaw20.first. -/
namespace Go.Proofs.YtkkgpdejmcpcpaaGreatDoor
open Go.RowKit

theorem pack_skip (w : World) : Calls Tryz.prog 22 #[.agg #[.int .i64 3, .int .i64 0, .slice none 0 0]] w fun e w' => ∃ A c, e = .returned (.tuple #[.agg #[.int .i64 3, .slice A 0 c], .nilIface]) ∧ Byt w' (.slice A 0 c) [] ∧ Below w.heap.size w w' :=
  (pack_any 3 0 _ [] w (byt_nil w) (by simp)).mono fun e w' ⟨v, h1, h2, h3⟩ => by
    have h0 : packNo 3 0 ([] : List UInt8).length = 0 := by decide
    have h4 : packB 3 0 [] = [] := by decide
    rw [h0, if_pos rfl, show codeV 0 = .nilIface from rfl] at h1
    rw [h0, if_pos rfl, h4] at h2
    obtain ⟨A, c, rfl, _⟩ := h2.form
    exact ⟨A, c, h1, h2, h3⟩
theorem pack_range (w : World) : Calls Tryz.prog 22 #[.agg #[.int .i64 1, .int .i64 16, .slice none 0 0]] w fun e w' => ∃ A c, e = .returned (.tuple #[.agg #[.int .i64 0, .slice A 0 c], .iface 43 (.int .i64 3)]) ∧ Below w.heap.size w w' :=
  (pack_any 1 16 _ [] w (byt_nil w) (by simp)).mono fun e w' ⟨v, h1, h2, h3⟩ => by
    have h0 : packNo 1 16 ([] : List UInt8).length = 3 := by decide
    rw [h0, if_neg (by decide), show codeV 3 = .iface 43 (.int .i64 3) from rfl] at h1
    rw [h0, if_neg (by decide)] at h2
    obtain ⟨A, c, rfl, _⟩ := h2.form
    exact ⟨A, c, h1, h3⟩
theorem read_short (w : World) : Calls Tryz.prog 23 #[.agg #[.int .i64 1, .slice none 0 0]] w fun e w' => ∃ A c, e = .returned (.tuple #[.agg #[.int .i64 0, .int .i64 0, .slice A 0 c], .iface 43 (.int .i64 1)]) ∧ Below w.heap.size w w' :=
  (read_any 1 _ [] w (byt_nil w) (by simp)).mono fun e w' ⟨v, h1, h2, h3⟩ => by
    have h0 : readNo 1 [] = 1 := by decide
    rw [h0, if_neg (by decide), if_neg (by decide), show codeV 1 = .iface 43 (.int .i64 1) from rfl] at h1
    rw [h0, if_neg (by decide)] at h2
    obtain ⟨A, c, rfl, _⟩ := h2.form
    exact ⟨A, c, h1, h3⟩
def sqK1 : SqS := ⟨1, 0, [0, 0, 0, 0], 0, 0, [], [[], [], [], []]⟩
def sqM2 : SqS := ⟨0, 2, [0, 0, 0, 0], 0, 0, [], [[], [], [], []]⟩
theorem sqM2_told (st : Wr) : (wrM.run (codeA false sqM2) st).1 = (none, bareS 0) := by
  have h := echo_told echo_wr (key := false) (s := sqM2) (right_of (by decide)) ⟨rfl, rfl⟩ st
  rw [h]
  rfl
structure FK (w : World) (cb : Nat) (A : Option Addr) (c : Nat) (W : World) : Prop where
  bel : Below w.heap.size w W
  blk : Blk W cb 67 #[.int .i64 3, .slice A 0 c]
  byt : Byt W (.slice A 0 c) []
theorem FK.below {w W W' : World} {cb : Nat} {A : Option Addr} {c : Nat} (h : FK w cb A c W) (hb : Below W.heap.size W W') : FK w cb A c W' := ⟨h.bel.trans (hb.mono h.bel.size), h.blk.below hb h.blk.lt, h.byt.below hb⟩
theorem FK.cells {w W : World} {cb : Nat} {A : Option Addr} {c : Nat} (h : FK w cb A c W) : W.cell? ⟨cb, 0, none⟩ = some (.int .i64 3) ∧ W.cell? ⟨cb, 1, none⟩ = some (.slice A 0 c) := ⟨by simpa using h.blk.cell 0, by simpa using h.blk.cell 1⟩
theorem FK.only {w W W' : World} {cb : Nat} {A : Option Addr} {c : Nat} {S : Nat → Prop} (h : FK w cb A c W) (o : Only S W W') (hc : ¬ S cb) (hS : ∀ k, S k → w.heap.size ≤ k) : FK w cb A c W' := by
  obtain ⟨A', c', e1, e2, _⟩ := h.byt
  refine ⟨h.bel.trans ⟨o.os, o.tape, o.output, o.size, fun k hk => o.block k (by have := h.bel.size; omega) (fun e => by have := hS k e; omega)⟩, h.blk.keep o hc, A', c', e1, e2, fun h => absurd rfl h⟩
structure FS (w : World) (cb sb : Nat) (A : Option Addr) (c : Nat) (W : World) : Prop where
  k : FK w cb A c W
  s0 : W.cell? ⟨sb, 0, none⟩ = some (.int .i64 0)
  s1 : W.cell? ⟨sb, 1, none⟩ = some (.int .i64 0)
  lt : sb < W.heap.size
theorem FS.below {w W W' : World} {cb sb : Nat} {A : Option Addr} {c : Nat} (h : FS w cb sb A c W) (hb : Below W.heap.size W W') : FS w cb sb A c W' :=
  ⟨h.k.below hb, (hb.cell (p := ⟨sb, 0, none⟩) h.lt).trans h.s0, (hb.cell (p := ⟨sb, 1, none⟩) h.lt).trans h.s1, Nat.lt_of_lt_of_le h.lt hb.size⟩
set_option maxRecDepth 100000 in
set_option maxHeartbeats 4000000 in
theorem first20 (w : World) (hg : ErrT w) : Calls Tryz.prog 5 #[] w fun e w' => e = .returned (.bool true) ∧ Below w.heap.size w w' := by
  have HG := hid (And.intro hg hg.lt)
  clear hg
  go_enter Tryz.func5, Tryz.ntmps5
  go_wp2_with fail
  refine (pack_skip _).mono ?_
  rintro e w1 ⟨A, c, rfl, hy1, hb1⟩
  have K1 := hid (show FK w w1.heap.size A c (w1.alloc (.cells #[.int .i64 3, .slice A 0 c] 67)) from ⟨hb1.alloc hb1.size _, Blk.new _ _ _, hy1.alloc _⟩)
  clear hy1 hb1
  go_wp2_with fail
  generalize (w1.alloc (.cells #[.int .i64 3, .slice A 0 c] 67)) = w2 at *
  refine (pack_range _).mono ?_
  rintro e w3 ⟨A3, c3, rfl, hb3⟩
  have K3 := hid ((K1.out.below hb3).below ((Below.refl _ _).alloc (Nat.le_refl _) (.cells #[.int .i64 0, .slice A3 0 c3] 67)))
  clear hb3 K1
  go_wp2_with fail
  generalize (w3.alloc (.cells #[.int .i64 0, .slice A3 0 c3] 67)) = w4 at *
  refine (read_short _).mono ?_
  rintro e w5 ⟨A5, c5, rfl, hb5⟩
  have K5 := hid ((K3.out.below hb5).below ((Below.refl _ _).alloc (Nat.le_refl _) (.cells #[.int .i64 0, .int .i64 0, .slice A5 0 c5] 71)))
  clear hb5 K3
  go_wp2_with fail
  generalize (w5.alloc (.cells #[.int .i64 0, .int .i64 0, .slice A5 0 c5] 71)) = w6 at *
  refine (new_wr _).mono ?_
  rintro e w7 ⟨b1, F1, rfl, ha1, hf1, hb7⟩
  have K7 := hid (K5.out.below hb7)
  have W7 := hid ha1
  have FF := hid (And.intro (show ∀ k, F1 k → w.heap.size ≤ k from fun k hk => Nat.le_trans K5.out.bel.size (hf1 k hk)) (show ¬ F1 w1.heap.size from fun e => by have := hf1 _ e; have := K5.out.blk.lt; omega))
  clear ha1 hf1 hb7 K5
  go_wp2_with fail
  have hno : askNo true sqK1 = 13 := by decide
  have HB8 := hid (scode_bad b1 _ (reads_wr b1) true _ sqK1 0 0 0 0 nilS nilS nilS nilS nilS [] [] [] [] w7 (sq_zero w7 1 0) (by rw [hno]; decide))
  rw [hno, show codeV 13 = .iface 43 (.int .i64 13) from rfl] at HB8
  refine HB8.out.mono ?_
  rintro e w8 ⟨rfl, hb8⟩
  have W8 := hid ((wr_coder b1).keep _ _ F1 (fun _ => False) _ W7.out (Only.of_below (hb8.alloc hb8.size (.cells #[.int .i64 0, .int .i64 0, .int .i64 0, .int .i64 0, .int .i64 0, .int .i64 0, .int .i64 0, .int .i64 0, nilS, nilS, nilS, nilS, nilS] 36))) (fun _ _ h => h))
  have K8 := hid ((K7.out.below hb8).below ((Below.refl _ _).alloc (Nat.le_refl _) (.cells #[.int .i64 0, .int .i64 0, .int .i64 0, .int .i64 0, .int .i64 0, .int .i64 0, .int .i64 0, .int .i64 0, nilS, nilS, nilS, nilS, nilS] 36)))
  clear hno HB8 W7 K7 hb8
  unfold zeroV sqV
  go_wp2_with fail
  generalize (w8.alloc (.cells #[.int .i64 0, .int .i64 0, .int .i64 0, .int .i64 0, .int .i64 0, .int .i64 0, .int .i64 0, .int .i64 0, nilS, nilS, nilS, nilS, nilS] 36)) = w9 at *
  refine (wcode20 b1 false _ sqM2 0 0 0 0 nilS nilS nilS nilS nilS [] [] [] [] Wr.new w9 F1 0 (sq_zero w9 0 2) W8.out ok_wr_new (by omega) (by decide) (fun h => by cases h) (fun h => by rcases h with h | h <;> cases h)).mono ?_
  rintro e w10 ⟨F10, hc10, hans⟩
  rw [sqM2_told] at hans
  obtain ⟨v10, rfl, hv10⟩ := hans
  obtain ⟨n0, n1, n2, n3, nlv, nv0, nv1, nv2, nv3, nl0, nl1, nl2, nl3, rfl, _, _, q0, q1, q2, q3, q4⟩ := hv10
  obtain ⟨a0, k0, rfl⟩ := lst_form q0
  obtain ⟨a1, k1, rfl⟩ := lst_form q1
  obtain ⟨a2, k2, rfl⟩ := lst_form q2
  obtain ⟨a3, k3, rfl⟩ := lst_form q3
  obtain ⟨a4, k4, rfl⟩ := lst_form q4
  have K10 := hid (K8.out.only hc10.o FF.out.2 FF.out.1)
  have K11 := hid (show FS w w1.heap.size w10.heap.size A c (w10.alloc (.cells #[.int .i64 0, .int .i64 0, .int .i64 n0, .int .i64 n1, .int .i64 n2, .int .i64 n3, .int .i64 0, .int .i64 0, .slice a0 k0 k0, .slice a1 k1 k1, .slice a2 k2 k2, .slice a3 k3 k3, .slice a4 k4 k4] 36)) from
    ⟨K10.out.below ((Below.refl _ _).alloc (Nat.le_refl _) _), by rw [(Blk.new w10 36 _).cell]; rfl, by rw [(Blk.new w10 36 _).cell]; rfl, by simp⟩)
  clear hc10 q0 q1 q2 q3 q4 W8 K8 K10 FF
  rw [show (bareS 0).kind = 0 from rfl, show (bareS 0).mode = 0 from rfl, show (bareS 0).x = 0 from rfl, show (bareS 0).y = 0 from rfl]
  unfold sqV
  go_upto_region 9 with fail
  generalize (w10.alloc (.cells #[.int .i64 0, .int .i64 0, .int .i64 n0, .int .i64 n1, .int .i64 n2, .int .i64 n3, .int .i64 0, .int .i64 0, .slice a0 k0 k0, .slice a1 k1 k1, .slice a2 k2 k2, .slice a3 k3 k3, .slice a4 k4 k4] 36)) = w11 at *
  obtain ⟨c0, c1⟩ := K11.out.k.cells
  have hc12 := cost_any 3 (.slice A 0 c) [] w11 K11.out.k.byt (by simp)
  rw [show ((([] : List UInt8).length : Int) + 8) = 8 from rfl] at hc12
  have HC := hid hc12
  clear hc12
  go_wp2_with fail
  refine HC.out.mono ?_
  rintro e w12 ⟨rfl, hb12⟩
  have K12 := hid (K11.out.below hb12)
  clear hb12 HC c0 c1
  go_wp2_with fail
  refine (fail_any 3 _).mono ?_
  rintro e w13 ⟨rfl, hb⟩
  have K13 := hid (K12.out.below hb)
  clear hb
  go_wp2_with fail
  have HE3 := hid (err_same 3)
  rw [show codeV 3 = .iface 43 (.int .i64 3) from rfl] at HE3
  refine (HE3.out _ (by exact HG.out.1.below K13.out.k.bel HG.out.2)).mono ?_
  rintro e w14 ⟨rfl, hb⟩
  have K14 := hid (K13.out.below hb)
  clear hb HE3
  go_wp2_with fail
  refine (fail_any 1 _).mono ?_
  rintro e w15 ⟨rfl, hb⟩
  have K15 := hid (K14.out.below hb)
  clear hb
  go_wp2_with fail
  have HE1 := hid (err_same 1)
  rw [show codeV 1 = .iface 43 (.int .i64 1) from rfl] at HE1
  refine (HE1.out _ (by exact HG.out.1.below K15.out.k.bel HG.out.2)).mono ?_
  rintro e w16 ⟨rfl, hb⟩
  have K16 := hid (K15.out.below hb)
  clear hb HE1
  go_wp2_with fail
  refine (fail_any 13 _).mono ?_
  rintro e w17 ⟨rfl, hb⟩
  have K17 := hid (K16.out.below hb)
  clear hb
  go_wp2_with fail
  have HE13 := hid (err_same 13)
  rw [show codeV 13 = .iface 43 (.int .i64 13) from rfl] at HE13
  refine (HE13.out _ (by exact HG.out.1.below K17.out.k.bel HG.out.2)).mono ?_
  rintro e w18 ⟨rfl, hb⟩
  have K18 := hid (K17.out.below hb)
  clear hb HE13
  have s0 := K18.out.s0
  have s1 := K18.out.s1
  go_wp2_with fail
  go_ret
  exact ⟨rfl, K18.out.k.bel⟩
end Go.Proofs.YtkkgpdejmcpcpaaGreatDoor

/- Arguments opened: bytes, with their capacity. -/
namespace Go.Proofs.YtkkgpdejmcpcpaaGreatDoor
open Go.ChangeShapes Go.WideShapes Go.ChangeAt Go.RowKit Go.Deep

theorem byte_of_wf {z : Int} (h : (Lit.int .u8 z).wf = true) : byteV (UInt8.ofNat z.toNat) = .int .u8 z := by
  have hb : 0 ≤ z ∧ z < 256 := by
    have := bounds_u8 h
    omega
  unfold byteV
  congr 1
  simp
  omega
section
variable {H : Type} {enc : TypeId × Value → H} {w : World} {base : Nat} {spare : Nat → Bool} {held : Bool}
theorem open_byt {A : Option Addr} {len cap : Nat} {d : DataW H} {p : List MemPlace} (h : DataW.Trod enc Tryz.prog w base spare held 53 (.slice A len cap) d p) :
    ∃ bs : List UInt8, bs.length = len ∧ Byt w (.slice A len cap) bs ∧ bs.length ≤ maxLen := by
  obtain ⟨fuel, hf⟩ := h
  rcases open_ints Tryz.underlying53 Tryz.underlying5 (by kernel_rfl) hf with ⟨hcs, _⟩ | ⟨x, l, c, zs, hcs, _, hl, hm, hz, _, hcell, hwz⟩
  · simp [Value.cells] at hcs
    obtain ⟨rfl, rfl, rfl⟩ := hcs
    exact ⟨[], rfl, ⟨none, 0, rfl, Nat.le_refl _, fun h => absurd rfl h⟩, Nat.zero_le _⟩
  · simp [Value.cells] at hcs
    obtain ⟨rfl, rfl, rfl⟩ := hcs
    have hlz : len ≤ zs.length := by rw [hz]; split <;> omega
    have hbl : ((zs.take len).map fun z => UInt8.ofNat z.toNat).length = len := by simp; omega
    refine ⟨(zs.take len).map fun z => UInt8.ofNat z.toNat, hbl, ⟨some x, cap, by rw [hbl], by rw [hbl]; omega, fun hne => ?_⟩, by rw [hbl]; omega⟩
    have hpos : 0 < len := by
      rcases Nat.eq_zero_or_pos len with h0 | h0
      · exact absurd (List.eq_nil_of_length_eq_zero (by rw [hbl]; exact h0)) hne
      · exact h0
    have h0 := hcell 0 (by omega)
    obtain ⟨b, off, spot⟩ := x
    have hspot : spot = none := by
      simp [Addr.add] at h0
      exact World.cell?_spot h0
    subst hspot
    refine ⟨b, off, rfl, ?_, fun j u hu => ?_⟩
    · rw [addr_add] at h0
      exact World.block_lt_of_cell? _ _ h0
    · have hj : j < len := by
        have := (List.getElem?_eq_some_iff.1 hu).1
        simp at this
        omega
      have hmem : zs.getD j 0 ∈ zs := by
        rw [List.getD_eq_getElem?_getD, List.getElem?_eq_getElem (by omega)]
        exact List.getElem_mem _
      have hc := hcell j (by omega)
      rw [addr_add] at hc
      rw [hc, ← byte_of_wf (hwz _ hmem)]
      have e : ((zs.take len).map fun z => UInt8.ofNat z.toNat)[j]? = some (UInt8.ofNat (zs.getD j 0).toNat) := by
        simp [List.getD, hj, show j < zs.length by omega]
      rw [e] at hu
      injection hu with hu
      rw [hu]
      rfl
end
end Go.Proofs.YtkkgpdejmcpcpaaGreatDoor

