/- Parts: XHeadA, XHeadB. -/
import Derived.Test.YtkkgpdejmcpcpaaDoorM01
import Derived.Test.YtkkgpdejmcpcpaaDoorM02
import Derived.Test.YtkkgpdejmcpcpaaDoorM16
import Derived.Deep.RegionHeldLaw
/- Chapter 20: heads: syntax.Pack, syntax.Read, syntax.Cost. -/
namespace Go.Proofs.YtkkgpdejmcpcpaaDoor
open Go.RowKit

/-- What is wrong with a head. -/
def packNo (k q : Int) (n : Nat) : Int := if k < 1 ∨ 4 < k then 13 else if q < 0 ∨ 15 < q then 3 else if 2 < k ∧ (q ≠ 0 ∨ 0 < n) then 2 else if 65536 ≤ n then 5 else 0
def packB (k q : Int) (bs : List UInt8) : List UInt8 := if 2 < k then [] else UInt8.ofNat q.toNat :: bs
def isKind (k : Int) : Bool := decide (1 ≤ k) && decide (k ≤ 4)
def isBare (k : Int) : Bool := decide (k = 3) || decide (k = 4)
theorem skind_any (k : Int) (w : World) : Calls Tryd.prog 29 #[.int .i64 k] w fun e w' => e = .returned (.bool (isKind k)) ∧ w' = w := by
  have HL := hid (show isKind k = (decide (1 ≤ k) && decide (k ≤ 4)) from rfl)
  have h1 : decide (1 ≤ k) = true ∨ decide (1 ≤ k) = false := by cases decide (1 ≤ k) <;> simp
  rcases h1 with h1 | h1
  all_goals
    rw [h1] at HL
    go_enter Tryd.func29, Tryd.ntmps29
    go_wp2_with fail
    go_ret
    rw [HL.out]
    exact ⟨rfl, rfl⟩
theorem sbare_any (k : Int) (w : World) : Calls Tryd.prog 30 #[.int .i64 k] w fun e w' => e = .returned (.bool (isBare k)) ∧ w' = w := by
  have HL := hid (show isBare k = (decide (k = 3) || decide (k = 4)) from rfl)
  have h1 : ((k == 3) = true ∧ decide (k = 3) = true) ∨ ((k == 3) = false ∧ decide (k = 3) = false) := by by_cases h : k = 3 <;> simp [h]
  rcases h1 with ⟨h1, h2⟩ | ⟨h1, h2⟩
  all_goals
    rw [h2] at HL
    clear h2
    go_enter Tryd.func30, Tryd.ntmps30
    go_wp2_with fail
    go_ret
    rw [HL.out]
    exact ⟨rfl, rfl⟩
/-- What Pack answers. -/
def HPackRes (no k : Int) (bs : List UInt8) (w : World) (e : Ending) (w' : World) : Prop :=
  ∃ v, e = .returned (.tuple #[.agg #[.int .i64 (if no = 0 then k else 0), v], codeV no]) ∧ Byt w' v (if no = 0 then bs else []) ∧ Below w.heap.size w w'
theorem byt_nil (w : World) : Byt w (.slice none 0 0) [] := ⟨none, 0, rfl, Nat.le_refl _, fun h => absurd rfl h⟩
theorem HPackRes.bad {no k : Int} {bs : List UInt8} {w w' : World} {e : Ending} (h : no ≠ 0) (he : e = .returned (.tuple #[.agg #[.int .i64 0, .slice none 0 0], .iface 33 (.int .i64 no)])) (hb : Below w.heap.size w w') : HPackRes no k bs w e w' :=
  ⟨.slice none 0 0, by rw [he, if_neg h]; unfold codeV; rw [if_neg h], by rw [if_neg h]; exact byt_nil _, hb⟩
theorem HPackRes.good {k : Int} {bs : List UInt8} {w w' : World} {e : Ending} {v : Value} (he : e = .returned (.tuple #[.agg #[.int .i64 k, v], .nilIface])) (hv : Byt w' v bs) (hb : Below w.heap.size w w') : HPackRes 0 k bs w e w' :=
  ⟨v, by rw [he, if_pos rfl]; rfl, by rw [if_pos rfl]; exact hv, hb⟩
set_option maxRecDepth 100000 in
set_option maxHeartbeats 4000000 in
theorem pack_any (k q : Int) (x : Value) (bs : List UInt8) (w : World) (hx : Byt w x bs) (hl : bs.length ≤ 140737488355328) :
    Calls Tryd.prog 9 #[.agg #[.int .i64 k, .int .i64 q, x]] w (HPackRes (packNo k q bs.length) k (packB k q bs) w) := by
  obtain ⟨i0, hi0, hz0, hz1, hz2⟩ := info_parts info_u8
  have IP := hid (And.intro hi0 (And.intro hz0 (And.intro hz1 hz2)))
  clear hi0 hz0 hz1 hz2
  obtain ⟨A, c, rfl, hc⟩ := hx.form
  have X := hid hx
  have HK := hid (fun W => skind_any k W)
  have HB := hid (fun W => sbare_any k W)
  clear hx
  have PN := hid (show packNo k q bs.length = if k < 1 ∨ 4 < k then 13 else if q < 0 ∨ 15 < q then 3 else if 2 < k ∧ (q ≠ 0 ∨ 0 < bs.length) then 2 else if 65536 ≤ bs.length then 5 else 0 from rfl)
  generalize packNo k q bs.length = no at *
  have hbb : ∀ o1 o2 : Obj, Below w.heap.size w ((w.alloc o1).alloc o2) := fun o1 o2 => ((Below.refl _ _).alloc (Nat.le_refl _) _).alloc (by simp) _
  have BB := hid hbb
  clear hbb
  by_cases h1 : k < 1 ∨ 4 < k
  · have e1 : isKind k = false := by unfold isKind; rcases h1 with h | h <;> simp <;> omega
    rw [e1] at HK
    have N := hid (show no = 13 by rw [PN.out, if_pos h1])
    clear h1 e1 PN
    go_enter Tryd.func9, Tryd.ntmps9
    go_wp2_with (go_at_call 29; refine (HK.out _).mono ?_; rintro e w2 ⟨rfl, rfl⟩)
    rw [N.out]
    exact bodyPost_ret (v := .tuple #[.agg #[.int .i64 0, .slice none 0 0], .iface 33 (.int .i64 13)]) (by simp [results, Tryd.results9, go_sem]) rfl (HPackRes.bad (by decide) rfl (BB.out _ _))
  · have e1 : isKind k = true := by unfold isKind; simp; omega
    rw [e1] at HK
    by_cases h2 : q < 0 ∨ 15 < q
    · have N := hid (show no = 3 by rw [PN.out, if_neg h1, if_pos h2])
      have h3 : decide (q < 0) = true ∨ (decide (q < 0) = false ∧ decide (15 < q) = true) := by
        by_cases h : q < 0
        · exact .inl (by simpa using h)
        · exact .inr ⟨by simpa using h, by simp; omega⟩
      clear h1 e1 PN h2
      rcases h3 with h3 | ⟨h3, h4⟩
      all_goals
        go_enter Tryd.func9, Tryd.ntmps9
        go_wp2_with (go_at_call 29; refine (HK.out _).mono ?_; rintro e w2 ⟨rfl, rfl⟩)
        rw [N.out]
        exact bodyPost_ret (v := .tuple #[.agg #[.int .i64 0, .slice none 0 0], .iface 33 (.int .i64 3)]) (by simp [results, Tryd.results9, go_sem]) rfl (HPackRes.bad (by decide) rfl (BB.out _ _))
    · have d1 : decide (q < 0) = false := by simp; omega
      have d2 : decide (15 < q) = false := by simp; omega
      by_cases h3 : 2 < k
      · have e2 : isBare k = true := by unfold isBare; simp; omega
        rw [e2] at HB
        by_cases h4 : q ≠ 0 ∨ 0 < bs.length
        · have N := hid (show no = 2 by rw [PN.out, if_neg h1, if_neg h2, if_pos ⟨h3, h4⟩])
          have h5 : (q != 0) = true ∨ ((q != 0) = false ∧ decide ((0 : Int) < (bs.length : Int)) = true ∧ decide (0 < bs.length) = true) := by
            by_cases h : q = 0
            · have hb0 : 0 < bs.length := by omega
              exact .inr ⟨by simp [h], by simp; omega, by simp; omega⟩
            · exact .inl (by simpa using h)
          clear h1 e1 PN h2 e2 h3 h4
          rcases h5 with h5 | ⟨h5, h6, h7⟩
          all_goals
            go_enter Tryd.func9, Tryd.ntmps9
            go_wp2_with (first
              | (go_at_call 29; refine (HK.out _).mono ?_; rintro e w2 ⟨rfl, rfl⟩)
              | (go_at_call 30; refine (HB.out _).mono ?_; rintro e w3 ⟨rfl, rfl⟩))
            rw [N.out]
            exact bodyPost_ret (v := .tuple #[.agg #[.int .i64 0, .slice none 0 0], .iface 33 (.int .i64 2)]) (by simp [results, Tryd.results9, go_sem]) rfl (HPackRes.bad (by decide) rfl (BB.out _ _))
        · obtain ⟨rfl, hb0⟩ : q = 0 ∧ bs.length = 0 := by omega
          have N := hid (show no = 0 by rw [PN.out, if_neg h1, if_neg h2, if_neg (by omega), if_neg (by omega)])
          have hp : packB k 0 bs = [] := by unfold packB; rw [if_pos h3]
          rw [hp, hb0]
          clear h1 e1 PN h2 e2 h3 h4 hp
          go_enter Tryd.func9, Tryd.ntmps9
          go_wp2_with (first
            | (go_at_call 29; refine (HK.out _).mono ?_; rintro e w2 ⟨rfl, rfl⟩)
            | (go_at_call 30; refine (HB.out _).mono ?_; rintro e w3 ⟨rfl, rfl⟩))
          rw [N.out]
          exact bodyPost_ret (v := .tuple #[.agg #[.int .i64 k, .slice none 0 0], .nilIface]) (by simp [results, Tryd.results9, go_sem]) rfl (HPackRes.good rfl (byt_nil _) (BB.out _ _))
      · have e2 : isBare k = false := by unfold isBare; simp; omega
        rw [e2] at HB
        by_cases h4 : 65536 ≤ bs.length
        · have N := hid (show no = 5 by rw [PN.out, if_neg h1, if_neg h2, if_neg (by omega), if_pos h4])
          have d3 : decide ((65536 : Int) ≤ (bs.length : Int)) = true := by simp; omega
          have d4 : decide (65536 ≤ bs.length) = true := by simp; omega
          clear h1 e1 PN h2 e2 h3 h4
          go_enter Tryd.func9, Tryd.ntmps9
          go_wp2_with (first
            | (go_at_call 29; refine (HK.out _).mono ?_; rintro e w2 ⟨rfl, rfl⟩)
            | (go_at_call 30; refine (HB.out _).mono ?_; rintro e w3 ⟨rfl, rfl⟩))
          rw [N.out]
          exact bodyPost_ret (v := .tuple #[.agg #[.int .i64 0, .slice none 0 0], .iface 33 (.int .i64 5)]) (by simp [results, Tryd.results9, go_sem]) rfl (HPackRes.bad (by decide) rfl (BB.out _ _))
        · have N := hid (show no = 0 by rw [PN.out, if_neg h1, if_neg h2, if_neg (by omega), if_neg h4])
          have d3 : decide ((65536 : Int) ≤ (bs.length : Int)) = false := by simp; omega
          have d4 : decide (65536 ≤ bs.length) = false := by simp; omega
          have hp : packB k q bs = UInt8.ofNat q.toNat :: bs := by unfold packB; rw [if_neg h3]
          rw [hp]
          have q1 : IntKind.u8.wrap q = (((UInt8.ofNat q.toNat).toNat : Nat) : Int) := by
            obtain ⟨n, rfl⟩ : ∃ n : Nat, q = (n : Int) := ⟨q.toNat, by omega⟩
            rw [wu8]; simp
          generalize UInt8.ofNat q.toNat = c1 at *
          have hl2 : bs.length < 65536 := by omega
          clear hl
          clear h1 e1 PN h2 e2 h3 h4 hp
          go_enter Tryd.func9, Tryd.ntmps9
          go_wp2_with (first
            | (go_at_call 29; refine (HK.out _).mono ?_; rintro e w2 ⟨rfl, rfl⟩)
            | (go_at_call 30; refine (HB.out _).mono ?_; rintro e w3 ⟨rfl, rfl⟩))
          have hh := (Blk.new w 24 #[.int .i64 k, .int .i64 q, .slice A bs.length c]).alloc (.cells #[.int .i64 0, .slice none 0 0] 26)
          have hcd := Blk.newAt' (n := w.heap.size + 1) (w.alloc (.cells #[.int .i64 k, .int .i64 q, .slice A bs.length c] 24)) 26 #[.int .i64 0, .slice none 0 0] (by simp)
          have hsz : ((w.alloc (.cells #[.int .i64 k, .int .i64 q, .slice A bs.length c] 24)).alloc (.cells #[.int .i64 0, .slice none 0 0] 26)).heap.size = w.heap.size + 2 := by simp
          have hb2 := BB.out (.cells #[.int .i64 k, .int .i64 q, .slice A bs.length c] 24) (.cells #[.int .i64 0, .slice none 0 0] 26)
          generalize ((w.alloc _).alloc _ : World) = w2 at *
          have W2 := hid (And.intro hh (And.intro hcd (And.intro hsz hb2)))
          have hcells : ∀ W, Blk W w.heap.size 24 #[.int .i64 k, .int .i64 q, .slice A bs.length c] → W.cell? ⟨w.heap.size, 0, none⟩ = some (.int .i64 k) ∧ W.cell? ⟨w.heap.size, 1, none⟩ = some (.int .i64 q) ∧ W.cell? ⟨w.heap.size, 2, none⟩ = some (.slice A bs.length c) := by
            intro W h
            refine ⟨?_, ?_, ?_⟩ <;> (rw [h.cell]; rfl)
          have HC := hid hcells
          have k2 := hcells _ hh
          have k2d := hcells _ hh.drew
          have k3 := hcells _ (hh.drew.alloc (.cells #[.int .u8 (c1.toNat : Nat)] 5))
          have k5d := hcells _ (hh.alloc (.cells #[.int .u8 (c1.toNat : Nat)] 5)).drew
          have k3d := hcells _ (hh.alloc (.cells #[.int .u8 (c1.toNat : Nat)] 5))
          have OL := hid (World.ownsRow_lit (size := 1) (base := w2.heap.size) (e := 5) w2 #[.int .u8 (c1.toNat : Nat)] 1 (Nat.le_refl _) (by unfold maxLen; omega) rfl)
          have OLd := hid (World.ownsRow_lit (size := 1) (base := w2.heap.size) (e := 5) w2.drew #[.int .u8 (c1.toNat : Nat)] 1 (Nat.le_refl _) (by unfold maxLen; omega) rfl)
          have XA := hid ((X.out.below hb2).alloc (.cells #[.int .u8 (c1.toNat : Nat)] 5))
          have XD := hid (X.out.below (hb2.trans ((((Below.refl w2.heap.size w2).drew).alloc (Nat.le_refl _) (.cells #[.int .u8 (c1.toNat : Nat)] 5)).mono (by omega))))
          clear hcells hh hcd hsz hb2
          go_region_held_law (fun W => W.cell? ⟨w.heap.size, 0, none⟩ = some (.int .i64 k) ∧ W.cell? ⟨w.heap.size, 1, none⟩ = some (.int .i64 q) ∧ W.cell? ⟨w.heap.size, 2, none⟩ = some (.slice A bs.length c)) (first | exact k6 | exact k4 | exact k3 | exact k2 | exact k2d | exact k3d | exact k5d)
            (first
              | ((refine step_append_form _ (by rfl) (.tmp 58) (.tmp 60) _ (by rfl) w2.heap.size 5 i0 (.int .u8 0) 1 1 Tryd.underlying22 IP.out.1 IP.out.2.1 IP.out.2.2.1 IP.out.2.2.2 rfl (by omega) (.slice (some ⟨w2.heap.size, 0, none⟩) 1 1) 1 [.int .u8 (c1.toNat : Nat)] (by rfl) (by first | exact OL.out | exact OL.out.drew | exact OLd.out) (.slice A bs.length c) bs.length (bs.map byteV) (by rfl) (by first | exact XA.out.from_ | exact XA.out.drew.from_ | exact XD.out.from_) (one_bytes bs) (.inl (by simp [Value.ownBlock])) (by unfold maxLen; omega) (by omega) (by simp) (c1 :: bs).length ((c1 :: bs).map byteV) (by simp; omega) (by rfl) ?_)
                 intro g cap w4 hown hgrow hat hlt
                 have hbel : Below w2.heap.size w2 w4 := by
                   first
                     | exact (((Below.refl w2.heap.size w2).alloc (Nat.le_refl _) _).drew).grown hgrow (by simp) (fun k hk => by simp [Value.ownBlock] at hk; omega)
                     | exact (((Below.refl w2.heap.size w2).drew).alloc (Nat.le_refl _) _).grown hgrow (by simp) (fun k hk => by simp [Value.ownBlock] at hk; omega)
                     | exact ((Below.refl w2.heap.size w2).alloc (Nat.le_refl _) _).grown hgrow (by simp) (fun k hk => by simp [Value.ownBlock] at hk; omega)
                 have k4 := HC.out _ (W2.out.1.below hbel (by have := W2.out.2.2.1; omega))
                 have h4 := W2.out.1.below hbel (by have := W2.out.2.2.1; omega)
                 have k6 := HC.out _ ((h4.far (p := ⟨w.heap.size + 1, 0, none⟩) (by show w.heap.size ≠ w.heap.size + 1; omega) (.int .i64 k)).far (p := ⟨w.heap.size + 1, 1, none⟩) (by show w.heap.size ≠ w.heap.size + 1; omega) (.slice (some ⟨g, 0, none⟩) (bs.length + 1) cap))
                 clear h4
                 have hc4 := W2.out.2.1.below hbel (by have := W2.out.2.2.1; omega)
                 have e0 := hc4.cell 0
                 have e1 := hc4.cell 1
                 have ef0 := hc4.frozen 0
                 have ef1 := hc4.frozen 1
                 simp at e0 e1
                 have K4 := hid (And.intro hown (And.intro hbel hc4))
                 clear hown hgrow hat hlt hbel hc4))
          have hz := ((K4.out.2.2.put 0 (.int .i64 k)).put 1 (.slice (some ⟨g, 0, none⟩) (bs.length + 1) cap))
          have z0 := hz.cell 0
          have z1 := hz.cell 1
          simp at z0 z1
          have HB4 := hid (show Below w.heap.size w w4 from W2.out.2.2.2.trans (K4.out.2.1.mono (by have := W2.out.2.2.1; omega)))
          go_wp2_with fail
          rw [N.out]
          exact bodyPost_ret (v := .tuple #[.agg #[.int .i64 k, .slice (some ⟨g, 0, none⟩) (bs.length + 1) cap], .nilIface]) (by simp [results, Tryd.results9, go_sem, z0, z1]) rfl (HPackRes.good rfl (by
            refine Byt.only (S := fun j => j = w.heap.size + 1) (Byt.of_own (bs := c1 :: bs) K4.out.1 rfl) (Only.put (S := fun j => j = w.heap.size + 1) (Only.put (S := fun j => j = w.heap.size + 1) (Only.refl _ _) rfl 0 _) rfl 1 _) (fun j hj e => ?_)
            have := (K4.out.1.lt j hj).1
            have := W2.out.2.2.1
            omega) ((HB4.out.setCell (p := ⟨w.heap.size + 1, 0, none⟩) (by show w.heap.size ≤ w.heap.size + 1; omega) _).setCell (p := ⟨w.heap.size + 1, 1, none⟩) (by show w.heap.size ≤ w.heap.size + 1; omega) _))
end Go.Proofs.YtkkgpdejmcpcpaaDoor

/- Chapter 20: heads: syntax.Read, syntax.Cost. -/
namespace Go.Proofs.YtkkgpdejmcpcpaaDoor
open Go.RowKit

def readNo (k : Int) (bs : List UInt8) : Int := if k < 1 ∨ 4 < k then 13 else if 2 < k then (if 0 < bs.length then 2 else 0) else if bs.length = 0 then 1 else if 15 < (bs.getD 0 0).toNat then 3 else if 65536 < bs.length then 5 else 0
def readQ (k : Int) (bs : List UInt8) : Int := if 2 < k then 0 else ((bs.getD 0 0).toNat : Nat)
def readB (k : Int) (bs : List UInt8) : List UInt8 := if 2 < k then [] else bs.drop 1
def HReadRes (no k q : Int) (bs : List UInt8) (w : World) (e : Ending) (w' : World) : Prop :=
  ∃ v, e = .returned (.tuple #[.agg #[.int .i64 (if no = 0 then k else 0), .int .i64 (if no = 0 then q else 0), v], codeV no]) ∧ Byt w' v (if no = 0 then bs else []) ∧ Below w.heap.size w w'
theorem HReadRes.bad {no k q : Int} {bs : List UInt8} {w w' : World} {e : Ending} (h : no ≠ 0) (he : e = .returned (.tuple #[.agg #[.int .i64 0, .int .i64 0, .slice none 0 0], .iface 33 (.int .i64 no)])) (hb : Below w.heap.size w w') : HReadRes no k q bs w e w' :=
  ⟨.slice none 0 0, by rw [he, if_neg h, if_neg h]; unfold codeV; rw [if_neg h], by rw [if_neg h]; exact byt_nil _, hb⟩
theorem HReadRes.good {k q : Int} {bs : List UInt8} {w w' : World} {e : Ending} {v : Value} (he : e = .returned (.tuple #[.agg #[.int .i64 k, .int .i64 q, v], .nilIface])) (hv : Byt w' v bs) (hb : Below w.heap.size w w') : HReadRes 0 k q bs w e w' :=
  ⟨v, by rw [he, if_pos rfl, if_pos rfl]; rfl, by rw [if_pos rfl]; exact hv, hb⟩
theorem usize_any (n : Int) (h : 0 ≤ n ∧ n ≤ 140737488355328) (w : World) : Calls Tryd.prog 34 #[.int .i64 n] w fun e w' => e = .returned (.int .i64 (n + 8)) ∧ w' = w := by
  have hw : IntKind.i64.wrap (n + 8) = n + 8 := IntWalk.i64_in _ (by omega)
  go_enter Tryd.func34, Tryd.ntmps34
  go_wp2_with fail
  go_ret
  exact ⟨rfl, rfl⟩
theorem cost_any (k : Int) (x : Value) (bs : List UInt8) (w : World) (hx : Byt w x bs) (hl : bs.length ≤ 140737488355328) :
    Calls Tryd.prog 16 #[.agg #[.int .i64 k, x]] w fun e w' => e = .returned (.int .i64 ((bs.length : Int) + 8)) ∧ Below w.heap.size w w' := by
  obtain ⟨A, c, rfl, hc⟩ := hx.form
  have B1 := hid (show Below w.heap.size w (w.alloc (.cells #[.int .i64 k, .slice A bs.length c] 26)) from (Below.refl _ _).alloc (Nat.le_refl _) _)
  clear hx
  go_enter Tryd.func16, Tryd.ntmps16
  go_wp2_with (go_at_call 34; refine (usize_any _ (by omega) _).mono ?_; rintro e w2 ⟨rfl, rfl⟩)
  go_ret
  exact ⟨rfl, B1.out⟩
set_option maxRecDepth 100000 in
set_option maxHeartbeats 4000000 in
theorem read_any (k : Int) (x : Value) (bs : List UInt8) (w : World) (hx : Byt w x bs) (hl : bs.length ≤ 140737488355328) :
    Calls Tryd.prog 11 #[.agg #[.int .i64 k, x]] w (HReadRes (readNo k bs) k (readQ k bs) (readB k bs) w) := by
  obtain ⟨i0, hi0, hz0, hz1, hz2⟩ := info_parts info_u8
  have IP := hid (And.intro hi0 (And.intro hz0 (And.intro hz1 hz2)))
  clear hi0 hz0 hz1 hz2
  obtain ⟨A, c, rfl, hc⟩ := hx.form
  have X := hid hx
  have HK := hid (fun W => skind_any k W)
  have HB := hid (fun W => sbare_any k W)
  clear hx
  have PN := hid (show readNo k bs = if k < 1 ∨ 4 < k then 13 else if 2 < k then (if 0 < bs.length then 2 else 0) else if bs.length = 0 then 1 else if 15 < (bs.getD 0 0).toNat then 3 else if 65536 < bs.length then 5 else 0 from rfl)
  generalize readNo k bs = no at *
  have BB := hid (show ∀ o1 o2 : Obj, Below w.heap.size w ((w.alloc o1).alloc o2) from fun o1 o2 => ((Below.refl _ _).alloc (Nat.le_refl _) _).alloc (by simp) _)
  by_cases h1 : k < 1 ∨ 4 < k
  · have e1 : isKind k = false := by unfold isKind; rcases h1 with h | h <;> simp <;> omega
    rw [e1] at HK
    have N := hid (show no = 13 by rw [PN.out, if_pos h1])
    clear h1 e1 PN
    go_enter Tryd.func11, Tryd.ntmps11
    go_wp2_with (go_at_call 29; refine (HK.out _).mono ?_; rintro e w2 ⟨rfl, rfl⟩)
    rw [N.out]
    exact bodyPost_ret (v := .tuple #[.agg #[.int .i64 0, .int .i64 0, .slice none 0 0], .iface 33 (.int .i64 13)]) (by simp [results, Tryd.results11, go_sem]) rfl (HReadRes.bad (by decide) rfl (BB.out _ _))
  · have e1 : isKind k = true := by unfold isKind; simp; omega
    rw [e1] at HK
    by_cases h3 : 2 < k
    · have e2 : isBare k = true := by unfold isBare; simp; omega
      rw [e2] at HB
      by_cases h4 : 0 < bs.length
      · have N := hid (show no = 2 by rw [PN.out, if_neg h1, if_pos h3, if_pos h4])
        have d3 : decide ((0 : Int) < (bs.length : Int)) = true := by simp; omega
        have d4 : decide (0 < bs.length) = true := by simp; omega
        clear h1 e1 PN e2 h3
        go_enter Tryd.func11, Tryd.ntmps11
        go_wp2_with (first
          | (go_at_call 29; refine (HK.out _).mono ?_; rintro e w2 ⟨rfl, rfl⟩)
          | (go_at_call 30; refine (HB.out _).mono ?_; rintro e w3 ⟨rfl, rfl⟩))
        rw [N.out]
        exact bodyPost_ret (v := .tuple #[.agg #[.int .i64 0, .int .i64 0, .slice none 0 0], .iface 33 (.int .i64 2)]) (by simp [results, Tryd.results11, go_sem]) rfl (HReadRes.bad (by decide) rfl (BB.out _ _))
      · have N := hid (show no = 0 by rw [PN.out, if_neg h1, if_pos h3, if_neg h4])
        have hb0 : bs.length = 0 := by omega
        have hp : readB k bs = [] := by unfold readB; rw [if_pos h3]
        have hq : readQ k bs = 0 := by unfold readQ; rw [if_pos h3]
        rw [hp, hq, hb0]
        clear h1 e1 PN e2 h3 hp hq
        go_enter Tryd.func11, Tryd.ntmps11
        go_wp2_with (first
          | (go_at_call 29; refine (HK.out _).mono ?_; rintro e w2 ⟨rfl, rfl⟩)
          | (go_at_call 30; refine (HB.out _).mono ?_; rintro e w3 ⟨rfl, rfl⟩))
        rw [N.out]
        exact bodyPost_ret (v := .tuple #[.agg #[.int .i64 k, .int .i64 0, .slice none 0 0], .nilIface]) (by simp [results, Tryd.results11, go_sem]) rfl (HReadRes.good rfl (byt_nil _) (BB.out _ _))
    · have e2 : isBare k = false := by unfold isBare; simp; omega
      rw [e2] at HB
      by_cases h4 : bs.length = 0
      · have N := hid (show no = 1 by rw [PN.out, if_neg h1, if_neg h3, if_pos h4])
        rw [h4]
        clear h1 e1 PN e2 h3
        go_enter Tryd.func11, Tryd.ntmps11
        go_wp2_with (first
          | (go_at_call 29; refine (HK.out _).mono ?_; rintro e w2 ⟨rfl, rfl⟩)
          | (go_at_call 30; refine (HB.out _).mono ?_; rintro e w3 ⟨rfl, rfl⟩))
        rw [N.out]
        exact bodyPost_ret (v := .tuple #[.agg #[.int .i64 0, .int .i64 0, .slice none 0 0], .iface 33 (.int .i64 1)]) (by simp [results, Tryd.results11, go_sem]) rfl (HReadRes.bad (by decide) rfl (BB.out _ _))
      · obtain ⟨b, off, u, hA, hbw, hu, hcell⟩ := X.out.at_ (j := 0) (by omega)
        subst hA
        have hug : bs.getD 0 0 = u := by rw [List.getD_eq_getElem?_getD, hu]; rfl
        rw [hug] at PN
        have hcell0 : w.cell? ⟨b, off, none⟩ = some (.int .u8 u.toNat) := by simpa using hcell
        have hl0 : ((bs.length : Int) == 0) = false := by simp; intro h; exact h4 (by rw [h]; rfl)
        have hl1 : (0 : Int) < (bs.length : Int) := by omega
        have hl2 : 0 < bs.length := by omega
        have hb2 : b ≠ w.heap.size ∧ b ≠ w.heap.size + 1 := by omega
        by_cases h5 : 15 < u.toNat
        · have N := hid (show no = 3 by rw [PN.out, if_neg h1, if_neg h3, if_neg h4, if_pos h5])
          have d5 : decide ((15 : Int) < (u.toNat : Int)) = true := by simp; omega
          have d6 : decide (15 < u.toNat) = true := by simp; omega
          clear h1 e1 PN e2 h3 h4 h5 hu hcell hug
          go_enter Tryd.func11, Tryd.ntmps11
          go_wp2_with (first
            | (go_at_call 29; refine (HK.out _).mono ?_; rintro e w2 ⟨rfl, rfl⟩)
            | (go_at_call 30; refine (HB.out _).mono ?_; rintro e w3 ⟨rfl, rfl⟩))
          rw [N.out]
          exact bodyPost_ret (v := .tuple #[.agg #[.int .i64 0, .int .i64 0, .slice none 0 0], .iface 33 (.int .i64 3)]) (by simp [results, Tryd.results11, go_sem]) rfl (HReadRes.bad (by decide) rfl (BB.out _ _))
        · have d5 : decide ((15 : Int) < (u.toNat : Int)) = false := by simp; omega
          have d6 : decide (15 < u.toNat) = false := by simp; omega
          by_cases h6 : 65536 < bs.length
          · have N := hid (show no = 5 by rw [PN.out, if_neg h1, if_neg h3, if_neg h4, if_neg h5, if_pos h6])
            have d7 : decide ((65536 : Int) < (bs.length : Int)) = true := by simp; omega
            have d8 : decide (65536 < bs.length) = true := by simp; omega
            clear h1 e1 PN e2 h3 h4 h5 hu hcell hug h6
            go_enter Tryd.func11, Tryd.ntmps11
            go_wp2_with (first
              | (go_at_call 29; refine (HK.out _).mono ?_; rintro e w2 ⟨rfl, rfl⟩)
              | (go_at_call 30; refine (HB.out _).mono ?_; rintro e w3 ⟨rfl, rfl⟩))
            rw [N.out]
            exact bodyPost_ret (v := .tuple #[.agg #[.int .i64 0, .int .i64 0, .slice none 0 0], .iface 33 (.int .i64 5)]) (by simp [results, Tryd.results11, go_sem]) rfl (HReadRes.bad (by decide) rfl (BB.out _ _))
          · have N := hid (show no = 0 by rw [PN.out, if_neg h1, if_neg h3, if_neg h4, if_neg h5, if_neg h6])
            have d7 : decide ((65536 : Int) < (bs.length : Int)) = false := by simp; omega
            have d8 : decide (65536 < bs.length) = false := by simp; omega
            have hq : readQ k bs = (u.toNat : Nat) := by unfold readQ; rw [if_neg h3, hug]
            have hp : readB k bs = bs.drop 1 := by unfold readB; rw [if_neg h3]
            rw [hq, hp]
            have hw7 : IntKind.i64.wrap (u.toNat : Int) = (u.toNat : Int) := IntWalk.i64_in _ (by have := u.toNat_lt; omega)
            have hl3 : bs.length ≤ 65536 := by omega
            have hdl : (bs.drop 1).length = bs.length - 1 := by simp
            obtain ⟨o2, ho2⟩ : ∃ o2 : Nat, o2 = if c = 1 then off else off + 1 := ⟨_, rfl⟩
            have hfr : From w 1 (.slice (some ⟨b, o2, none⟩) (bs.length - 1) (c - 1)) (bs.length - 1) ((bs.drop 1).map byteV) := by
              refine ⟨_, _, rfl, by simp, fun h0 => ?_⟩
              have hc1 : c ≠ 1 := by omega
              rw [if_neg hc1] at ho2
              subst ho2
              obtain ⟨A, cc, hA, _, hcc⟩ := (X.out.dropAt (k := 1) (by omega)).from_
              rw [hdl] at hA hcc
              obtain ⟨ad, h7, h8⟩ := hcc h0
              injection hA with hA1 hA2 hA3
              subst hA1
              cases h7
              exact ⟨_, rfl, h8⟩
            have hix : ∀ W : World, (Instr.indexAt 22 (.slice (some ⟨b, off, none⟩) bs.length c) (.int .i64 0)).run Tryd.prog W = .ok (.pointer (some ⟨b, off, none⟩)) W := by
              intro W
              go_simp
            have hsl : ∀ W : World, (Instr.sliceAt 22 (.slice (some ⟨b, off, none⟩) bs.length c) (some (.int .i64 1)) none none).run Tryd.prog W = .ok (.slice (some ⟨b, o2, none⟩) (bs.length - 1) (c - 1)) W := by
              intro W
              have e : (if c = 1 then (some ⟨b, off, none⟩ : Option Addr) else some ⟨b, off + 1, none⟩) = some ⟨b, o2, none⟩ := by rw [ho2]; split <;> rfl
              have h1' : (1 : Int) ≤ (bs.length : Int) := by omega
              have h2' : 1 ≤ bs.length := by omega
              go_simp
              try rw [e]
            clear h1 e1 PN e2 h3 h4 h5 hu hcell h6 hl hug hp hq
            generalize bs.drop 1 = bd at *
            go_enter Tryd.func11, Tryd.ntmps11
            go_wp2_with (first
              | (go_at_call 29; refine (HK.out _).mono ?_; rintro e w2 ⟨rfl, rfl⟩)
              | (go_at_call 30; refine (HB.out _).mono ?_; rintro e w3 ⟨rfl, rfl⟩))
            have hh := (Blk.new w 26 #[.int .i64 k, .slice (some ⟨b, off, none⟩) bs.length c]).alloc (.cells #[.int .i64 0, .int .i64 0, .slice none 0 0] 24)
            have hcd := Blk.newAt' (n := w.heap.size + 1) (w.alloc (.cells #[.int .i64 k, .slice (some ⟨b, off, none⟩) bs.length c] 26)) 24 #[.int .i64 0, .int .i64 0, .slice none 0 0] (by simp)
            have hsz : ((w.alloc (.cells #[.int .i64 k, .slice (some ⟨b, off, none⟩) bs.length c] 26)).alloc (.cells #[.int .i64 0, .int .i64 0, .slice none 0 0] 24)).heap.size = w.heap.size + 2 := by simp
            have hb2 := BB.out (.cells #[.int .i64 k, .slice (some ⟨b, off, none⟩) bs.length c] 26) (.cells #[.int .i64 0, .int .i64 0, .slice none 0 0] 24)
            generalize ((w.alloc _).alloc _ : World) = w2 at *
            have W2 := hid (And.intro hh (And.intro hcd (And.intro hsz hb2)))
            have hcells : ∀ W, Blk W w.heap.size 26 #[.int .i64 k, .slice (some ⟨b, off, none⟩) bs.length c] → Below w.heap.size w W → W.cell? ⟨w.heap.size, 0, none⟩ = some (.int .i64 k) ∧ W.cell? ⟨w.heap.size, 1, none⟩ = some (.slice (some ⟨b, off, none⟩) bs.length c) ∧ W.cell? ⟨b, off, none⟩ = some (.int .u8 u.toNat) := by
              intro W h hb
              refine ⟨by rw [h.cell]; rfl, by rw [h.cell]; rfl, (hb.cell (p := ⟨b, off, none⟩) hbw).trans hcell0⟩
            have HC := hid hcells
            have k2 := hcells _ hh hb2
            have k2d := hcells _ hh.drew hb2.drew
            have hb3 : ∀ o : Obj, Below w.heap.size w (w2.alloc o) := fun o => hb2.alloc (by omega) o
            have k3 := hcells _ (hh.drew.alloc (.cells #[] 5)) (hb2.drew.alloc (by show w.heap.size ≤ w2.heap.size; omega) _)
            have k3d := hcells _ (hh.alloc (.cells #[] 5)) (hb3 _)
            have k5d := hcells _ (hh.alloc (.cells #[] 5)).drew (hb3 _).drew
            have OL := hid (World.ownsRow_lit (size := 1) (base := w2.heap.size) (e := 5) w2 #[] 0 (Nat.le_refl _) (by unfold maxLen; omega) rfl)
            have OLd := hid (World.ownsRow_lit (size := 1) (base := w2.heap.size) (e := 5) w2.drew #[] 0 (Nat.le_refl _) (by unfold maxLen; omega) rfl)
            have FR : Hid (∀ W, Below w.heap.size w W → From W 1 (.slice (some ⟨b, o2, none⟩) (bs.length - 1) (c - 1)) (bs.length - 1) (bd.map byteV)) := fun W hb => by
              obtain ⟨A, cc, h1, h2, h3⟩ := hfr
              refine ⟨A, cc, h1, h2, fun h0 => ?_⟩
              obtain ⟨ad, h4, h5⟩ := h3 h0
              refine ⟨ad, h4, fun j u hu => ?_⟩
              have := h5 j u hu
              rw [hb.cell (World.block_lt_of_cell? _ _ this)]
              exact this
            have B3 := hid (hb3 (.cells #[] 5))
            have B3d := hid (show Below w.heap.size w (w2.drew.alloc (.cells #[] 5)) from hb2.drew.alloc (by show w.heap.size ≤ w2.heap.size; omega) _)
            clear hcells hh hcd hsz hb2 hb3 hfr ho2 hbw hcell0
            go_region_held_law (fun W => W.cell? ⟨w.heap.size, 0, none⟩ = some (.int .i64 k) ∧ W.cell? ⟨w.heap.size, 1, none⟩ = some (.slice (some ⟨b, off, none⟩) bs.length c) ∧ W.cell? ⟨b, off, none⟩ = some (.int .u8 u.toNat)) (first | exact k6 | exact k4 | exact k3 | exact k2 | exact k2d | exact k3d | exact k5d)
              (first
                | ((refine step_append_form _ (by rfl) (.tmp 59) (.tmp 62) _ (by rfl) w2.heap.size 5 i0 (.int .u8 0) 1 1 Tryd.underlying22 IP.out.1 IP.out.2.1 IP.out.2.2.1 IP.out.2.2.2 rfl (by omega) (.slice (some ⟨w2.heap.size, 0, none⟩) 0 0) 0 [] (by rfl) (by first | exact OL.out | exact OL.out.drew | exact OLd.out) (.slice (some ⟨b, o2, none⟩) (bs.length - 1) (c - 1)) (bs.length - 1) (bd.map byteV) (by rfl) (by first | exact FR.out _ B3.out | exact FR.out _ B3.out.drew | exact FR.out _ B3d.out) (one_bytes _) (.inl (by simp [Value.ownBlock])) (by unfold maxLen; omega) (by omega) (by simp) (bs.length - 1) (bd.map byteV) (by simp) (by simp) ?_)
                   intro g cap w4 hown hgrow hat hlt
                   have hbel : Below w2.heap.size w2 w4 := by
                     first
                       | exact (((Below.refl w2.heap.size w2).alloc (Nat.le_refl _) _).drew).grown hgrow (by simp) (fun k hk => by simp [Value.ownBlock] at hk; omega)
                       | exact (((Below.refl w2.heap.size w2).drew).alloc (Nat.le_refl _) _).grown hgrow (by simp) (fun k hk => by simp [Value.ownBlock] at hk; omega)
                       | exact ((Below.refl w2.heap.size w2).alloc (Nat.le_refl _) _).grown hgrow (by simp) (fun k hk => by simp [Value.ownBlock] at hk; omega)
                   have hb4 : Below w.heap.size w w4 := W2.out.2.2.2.trans (hbel.mono (by have := W2.out.2.2.1; omega))
                   have h4 := W2.out.1.below hbel (by have := W2.out.2.2.1; omega)
                   have k4 := HC.out _ h4 hb4
                   have k6 := HC.out _ (((h4.far (p := ⟨w.heap.size + 1, 0, none⟩) (by show w.heap.size ≠ w.heap.size + 1; omega) (.int .i64 k)).far (p := ⟨w.heap.size + 1, 1, none⟩) (by show w.heap.size ≠ w.heap.size + 1; omega) (.int .i64 (u.toNat : Nat))).far (p := ⟨w.heap.size + 1, 2, none⟩) (by show w.heap.size ≠ w.heap.size + 1; omega) (.slice (some ⟨g, 0, none⟩) (bs.length - 1) cap)) (((hb4.setCell (p := ⟨w.heap.size + 1, 0, none⟩) (by show w.heap.size ≤ w.heap.size + 1; omega) _).setCell (p := ⟨w.heap.size + 1, 1, none⟩) (by show w.heap.size ≤ w.heap.size + 1; omega) _).setCell (p := ⟨w.heap.size + 1, 2, none⟩) (by show w.heap.size ≤ w.heap.size + 1; omega) _)
                   clear h4
                   have hc4 := W2.out.2.1.below hbel (by have := W2.out.2.2.1; omega)
                   have e0 := hc4.cell 0
                   have e1 := hc4.cell 1
                   have e2 := hc4.cell 2
                   have ef0 := hc4.frozen 0
                   have ef1 := hc4.frozen 1
                   have ef2 := hc4.frozen 2
                   simp at e0 e1 e2
                   have K4 := hid (And.intro hown (And.intro hb4 hc4))
                   clear hown hgrow hat hlt hbel hc4 hb4))
            have hz := (((K4.out.2.2.put 0 (.int .i64 k)).put 1 (.int .i64 (u.toNat : Nat))).put 2 (.slice (some ⟨g, 0, none⟩) (bs.length - 1) cap))
            have z0 := hz.cell 0
            have z1 := hz.cell 1
            have z2 := hz.cell 2
            simp at z0 z1 z2
            go_wp2_with fail
            rw [N.out]
            exact bodyPost_ret (v := .tuple #[.agg #[.int .i64 k, .int .i64 (u.toNat : Nat), .slice (some ⟨g, 0, none⟩) (bs.length - 1) cap], .nilIface]) (by simp [results, Tryd.results11, go_sem, z0, z1, z2]) rfl (HReadRes.good rfl (by
              refine Byt.only (S := fun j => j = w.heap.size + 1) (Byt.of_own (bs := bd) K4.out.1 hdl) (Only.put (S := fun j => j = w.heap.size + 1) (Only.put (S := fun j => j = w.heap.size + 1) (Only.put (S := fun j => j = w.heap.size + 1) (Only.refl _ _) rfl 0 _) rfl 1 _) rfl 2 _) (fun j hj e => ?_)
              have := (K4.out.1.lt j hj).1
              have := W2.out.2.2.1
              omega) (((K4.out.2.1.setCell (p := ⟨w.heap.size + 1, 0, none⟩) (by show w.heap.size ≤ w.heap.size + 1; omega) _).setCell (p := ⟨w.heap.size + 1, 1, none⟩) (by show w.heap.size ≤ w.heap.size + 1; omega) _).setCell (p := ⟨w.heap.size + 1, 2, none⟩) (by show w.heap.size ≤ w.heap.size + 1; omega) _))
end Go.Proofs.YtkkgpdejmcpcpaaDoor

