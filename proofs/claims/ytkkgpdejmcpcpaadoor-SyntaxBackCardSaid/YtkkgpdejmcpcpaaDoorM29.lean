/- Parts: XFirst20, XOpenByt, XOpenEls, XOpenLst, XKinds20. -/
import Derived.Test.YtkkgpdejmcpcpaaDoorM26
import Derived.Test.YtkkgpdejmcpcpaaDoorM28
import Derived.Test.YtkkgpdejmcpcpaaDoorM17
import Derived.Test.YtkkgpdejmcpcpaaDoorRows
import Derived.Test.YtkkgpdejmcpcpaaDoorM02
import Derived.ProofKit
import Derived.OpenShut
import Derived.ShutString
import Derived.ChangeOld
import Derived.Deep.Slices
import Derived.Deep.Fields
import Derived.SizedLaws
import Derived.Test.YtkkgpdejmcpcpaaDoorM27
/- Chapter 20: kinlaw20.first. -/
namespace Go.Proofs.YtkkgpdejmcpcpaaDoor
open Go.RowKit

theorem pack_skip (w : World) : Calls Tryd.prog 9 #[.agg #[.int .i64 3, .int .i64 0, .slice none 0 0]] w fun e w' => ∃ A c, e = .returned (.tuple #[.agg #[.int .i64 3, .slice A 0 c], .nilIface]) ∧ Byt w' (.slice A 0 c) [] ∧ Below w.heap.size w w' :=
  (pack_any 3 0 _ [] w (byt_nil w) (by simp)).mono fun e w' ⟨v, h1, h2, h3⟩ => by
    have h0 : packNo 3 0 ([] : List UInt8).length = 0 := by decide
    have h4 : packB 3 0 [] = [] := by decide
    rw [h0, if_pos rfl, show codeV 0 = .nilIface from rfl] at h1
    rw [h0, if_pos rfl, h4] at h2
    obtain ⟨A, c, rfl, _⟩ := h2.form
    exact ⟨A, c, h1, h2, h3⟩
theorem pack_range (w : World) : Calls Tryd.prog 9 #[.agg #[.int .i64 1, .int .i64 16, .slice none 0 0]] w fun e w' => ∃ A c, e = .returned (.tuple #[.agg #[.int .i64 0, .slice A 0 c], .iface 33 (.int .i64 3)]) ∧ Below w.heap.size w w' :=
  (pack_any 1 16 _ [] w (byt_nil w) (by simp)).mono fun e w' ⟨v, h1, h2, h3⟩ => by
    have h0 : packNo 1 16 ([] : List UInt8).length = 3 := by decide
    rw [h0, if_neg (by decide), show codeV 3 = .iface 33 (.int .i64 3) from rfl] at h1
    rw [h0, if_neg (by decide)] at h2
    obtain ⟨A, c, rfl, _⟩ := h2.form
    exact ⟨A, c, h1, h3⟩
theorem read_short (w : World) : Calls Tryd.prog 11 #[.agg #[.int .i64 1, .slice none 0 0]] w fun e w' => ∃ A c, e = .returned (.tuple #[.agg #[.int .i64 0, .int .i64 0, .slice A 0 c], .iface 33 (.int .i64 1)]) ∧ Below w.heap.size w w' :=
  (read_any 1 _ [] w (byt_nil w) (by simp)).mono fun e w' ⟨v, h1, h2, h3⟩ => by
    have h0 : readNo 1 [] = 1 := by decide
    rw [h0, if_neg (by decide), if_neg (by decide), show codeV 1 = .iface 33 (.int .i64 1) from rfl] at h1
    rw [h0, if_neg (by decide)] at h2
    obtain ⟨A, c, rfl, _⟩ := h2.form
    exact ⟨A, c, h1, h3⟩
def sqK1 : SqS := ⟨1, 0, [0, 0, 0, 0], 0, 0, [], [[], [], [], []]⟩
def sqM2 : SqS := ⟨0, 2, [0, 0, 0, 0], 0, 0, [], [[], [], [], []]⟩
theorem sqM2_told (st : Wr) : (wrM.run (codeA false sqM2) st).1 = (none, bareS 0) := by
  have h := echo_told echo_wr (key := false) (s := sqM2) (right_of (by decide)) ⟨rfl, rfl⟩ st
  rw [h]
  rfl
structure FK (w : World) (cb : Nat) (A : Option Addr) (c : Nat) (W : World) : Prop where
  bel : Below w.heap.size w W
  blk : Blk W cb 26 #[.int .i64 3, .slice A 0 c]
  byt : Byt W (.slice A 0 c) []
theorem FK.below {w W W' : World} {cb : Nat} {A : Option Addr} {c : Nat} (h : FK w cb A c W) (hb : Below W.heap.size W W') : FK w cb A c W' := ⟨h.bel.trans (hb.mono h.bel.size), h.blk.below hb h.blk.lt, h.byt.below hb⟩
theorem FK.cells {w W : World} {cb : Nat} {A : Option Addr} {c : Nat} (h : FK w cb A c W) : W.cell? ⟨cb, 0, none⟩ = some (.int .i64 3) ∧ W.cell? ⟨cb, 1, none⟩ = some (.slice A 0 c) := ⟨by simpa using h.blk.cell 0, by simpa using h.blk.cell 1⟩
theorem FK.only {w W W' : World} {cb : Nat} {A : Option Addr} {c : Nat} {S : Nat → Prop} (h : FK w cb A c W) (o : Only S W W') (hc : ¬ S cb) (hS : ∀ k, S k → w.heap.size ≤ k) : FK w cb A c W' := by
  obtain ⟨A', c', e1, e2, _⟩ := h.byt
  refine ⟨h.bel.trans ⟨o.os, o.tape, o.output, o.size, fun k hk => o.block k (by have := h.bel.size; omega) (fun e => by have := hS k e; omega)⟩, h.blk.keep o hc, A', c', e1, e2, fun h => absurd rfl h⟩
structure FS (w : World) (cb sb : Nat) (A : Option Addr) (c : Nat) (W : World) : Prop where
  k : FK w cb A c W
  s0 : W.cell? ⟨sb, 0, none⟩ = some (.int .i64 0)
  s1 : W.cell? ⟨sb, 1, none⟩ = some (.int .i64 0)
  lt : sb < W.heap.size
theorem FS.below {w W W' : World} {cb sb : Nat} {A : Option Addr} {c : Nat} (h : FS w cb sb A c W) (hb : Below W.heap.size W W') : FS w cb sb A c W' :=
  ⟨h.k.below hb, (hb.cell (p := ⟨sb, 0, none⟩) h.lt).trans h.s0, (hb.cell (p := ⟨sb, 1, none⟩) h.lt).trans h.s1, Nat.lt_of_lt_of_le h.lt hb.size⟩
set_option maxRecDepth 100000 in
set_option maxHeartbeats 4000000 in
theorem first20 (w : World) (hg : ErrT w) : Calls Tryd.prog 7 #[] w fun e w' => e = .returned (.bool true) ∧ Below w.heap.size w w' := by
  have HG := hid (And.intro hg hg.lt)
  clear hg
  go_enter Tryd.func7, Tryd.ntmps7
  go_wp2_with fail
  refine (pack_skip _).mono ?_
  rintro e w1 ⟨A, c, rfl, hy1, hb1⟩
  have K1 := hid (show FK w w1.heap.size A c (w1.alloc (.cells #[.int .i64 3, .slice A 0 c] 26)) from ⟨hb1.alloc hb1.size _, Blk.new _ _ _, hy1.alloc _⟩)
  clear hy1 hb1
  go_wp2_with fail
  generalize (w1.alloc (.cells #[.int .i64 3, .slice A 0 c] 26)) = w2 at *
  refine (pack_range _).mono ?_
  rintro e w3 ⟨A3, c3, rfl, hb3⟩
  have K3 := hid ((K1.out.below hb3).below ((Below.refl _ _).alloc (Nat.le_refl _) (.cells #[.int .i64 0, .slice A3 0 c3] 26)))
  clear hb3 K1
  go_wp2_with fail
  generalize (w3.alloc (.cells #[.int .i64 0, .slice A3 0 c3] 26)) = w4 at *
  refine (read_short _).mono ?_
  rintro e w5 ⟨A5, c5, rfl, hb5⟩
  have K5 := hid ((K3.out.below hb5).below ((Below.refl _ _).alloc (Nat.le_refl _) (.cells #[.int .i64 0, .int .i64 0, .slice A5 0 c5] 24)))
  clear hb5 K3
  go_wp2_with fail
  generalize (w5.alloc (.cells #[.int .i64 0, .int .i64 0, .slice A5 0 c5] 24)) = w6 at *
  refine (new_wr _).mono ?_
  rintro e w7 ⟨b1, F1, rfl, ha1, hf1, hb7⟩
  have K7 := hid (K5.out.below hb7)
  have W7 := hid ha1
  have FF := hid (And.intro (show ∀ k, F1 k → w.heap.size ≤ k from fun k hk => Nat.le_trans K5.out.bel.size (hf1 k hk)) (show ¬ F1 w1.heap.size from fun e => by have := hf1 _ e; have := K5.out.blk.lt; omega))
  clear ha1 hf1 hb7 K5
  go_wp2_with fail
  have hno : askNo true sqK1 = 13 := by decide
  have HB8 := hid (scode_bad b1 _ (reads_wr b1) true _ sqK1 0 0 0 0 nilS nilS nilS nilS nilS [] [] [] [] w7 (sq_zero w7 1 0) (by rw [hno]; decide))
  rw [hno, show codeV 13 = .iface 33 (.int .i64 13) from rfl] at HB8
  refine HB8.out.mono ?_
  rintro e w8 ⟨rfl, hb8⟩
  have W8 := hid ((wr_coder b1).keep _ _ F1 (fun _ => False) _ W7.out (Only.of_below (hb8.alloc hb8.size (.cells #[.int .i64 0, .int .i64 0, .int .i64 0, .int .i64 0, .int .i64 0, .int .i64 0, .int .i64 0, .int .i64 0, nilS, nilS, nilS, nilS, nilS] 60))) (fun _ _ h => h))
  have K8 := hid ((K7.out.below hb8).below ((Below.refl _ _).alloc (Nat.le_refl _) (.cells #[.int .i64 0, .int .i64 0, .int .i64 0, .int .i64 0, .int .i64 0, .int .i64 0, .int .i64 0, .int .i64 0, nilS, nilS, nilS, nilS, nilS] 60)))
  clear hno HB8 W7 K7 hb8
  unfold zeroV sqV
  go_wp2_with fail
  generalize (w8.alloc (.cells #[.int .i64 0, .int .i64 0, .int .i64 0, .int .i64 0, .int .i64 0, .int .i64 0, .int .i64 0, .int .i64 0, nilS, nilS, nilS, nilS, nilS] 60)) = w9 at *
  refine (wcode20 b1 false _ sqM2 0 0 0 0 nilS nilS nilS nilS nilS [] [] [] [] Wr.new w9 F1 0 (sq_zero w9 0 2) W8.out ok_wr_new (by omega) (by decide) (fun h => by cases h) (fun h => by rcases h with h | h <;> cases h)).mono ?_
  rintro e w10 ⟨F10, hc10, hans⟩
  rw [sqM2_told] at hans
  obtain ⟨v10, rfl, hv10⟩ := hans
  obtain ⟨n0, n1, n2, n3, nlv, nv0, nv1, nv2, nv3, nl0, nl1, nl2, nl3, rfl, _, _, q0, q1, q2, q3, q4⟩ := hv10
  obtain ⟨a0, k0, rfl⟩ := lst_form q0
  obtain ⟨a1, k1, rfl⟩ := lst_form q1
  obtain ⟨a2, k2, rfl⟩ := lst_form q2
  obtain ⟨a3, k3, rfl⟩ := lst_form q3
  obtain ⟨a4, k4, rfl⟩ := lst_form q4
  have K10 := hid (K8.out.only hc10.o FF.out.2 FF.out.1)
  have K11 := hid (show FS w w1.heap.size w10.heap.size A c (w10.alloc (.cells #[.int .i64 0, .int .i64 0, .int .i64 n0, .int .i64 n1, .int .i64 n2, .int .i64 n3, .int .i64 0, .int .i64 0, .slice a0 k0 k0, .slice a1 k1 k1, .slice a2 k2 k2, .slice a3 k3 k3, .slice a4 k4 k4] 60)) from
    ⟨K10.out.below ((Below.refl _ _).alloc (Nat.le_refl _) _), by rw [(Blk.new w10 60 _).cell]; rfl, by rw [(Blk.new w10 60 _).cell]; rfl, by simp⟩)
  clear hc10 q0 q1 q2 q3 q4 W8 K8 K10 FF
  rw [show (bareS 0).kind = 0 from rfl, show (bareS 0).mode = 0 from rfl, show (bareS 0).x = 0 from rfl, show (bareS 0).y = 0 from rfl]
  unfold sqV
  go_upto_region 9 with fail
  generalize (w10.alloc (.cells #[.int .i64 0, .int .i64 0, .int .i64 n0, .int .i64 n1, .int .i64 n2, .int .i64 n3, .int .i64 0, .int .i64 0, .slice a0 k0 k0, .slice a1 k1 k1, .slice a2 k2 k2, .slice a3 k3 k3, .slice a4 k4 k4] 60)) = w11 at *
  obtain ⟨c0, c1⟩ := K11.out.k.cells
  have hc12 := cost_any 3 (.slice A 0 c) [] w11 K11.out.k.byt (by simp)
  rw [show ((([] : List UInt8).length : Int) + 8) = 8 from rfl] at hc12
  have HC := hid hc12
  clear hc12
  go_wp2_with fail
  refine HC.out.mono ?_
  rintro e w12 ⟨rfl, hb12⟩
  have K12 := hid (K11.out.below hb12)
  clear hb12 HC c0 c1
  go_wp2_with fail
  refine (fail_any 3 _).mono ?_
  rintro e w13 ⟨rfl, hb⟩
  have K13 := hid (K12.out.below hb)
  clear hb
  go_wp2_with fail
  have HE3 := hid (err_same 3)
  rw [show codeV 3 = .iface 33 (.int .i64 3) from rfl] at HE3
  refine (HE3.out _ (by exact HG.out.1.below K13.out.k.bel HG.out.2)).mono ?_
  rintro e w14 ⟨rfl, hb⟩
  have K14 := hid (K13.out.below hb)
  clear hb HE3
  go_wp2_with fail
  refine (fail_any 1 _).mono ?_
  rintro e w15 ⟨rfl, hb⟩
  have K15 := hid (K14.out.below hb)
  clear hb
  go_wp2_with fail
  have HE1 := hid (err_same 1)
  rw [show codeV 1 = .iface 33 (.int .i64 1) from rfl] at HE1
  refine (HE1.out _ (by exact HG.out.1.below K15.out.k.bel HG.out.2)).mono ?_
  rintro e w16 ⟨rfl, hb⟩
  have K16 := hid (K15.out.below hb)
  clear hb HE1
  go_wp2_with fail
  refine (fail_any 13 _).mono ?_
  rintro e w17 ⟨rfl, hb⟩
  have K17 := hid (K16.out.below hb)
  clear hb
  go_wp2_with fail
  have HE13 := hid (err_same 13)
  rw [show codeV 13 = .iface 33 (.int .i64 13) from rfl] at HE13
  refine (HE13.out _ (by exact HG.out.1.below K17.out.k.bel HG.out.2)).mono ?_
  rintro e w18 ⟨rfl, hb⟩
  have K18 := hid (K17.out.below hb)
  clear hb HE13
  have s0 := K18.out.s0
  have s1 := K18.out.s1
  go_wp2_with fail
  go_ret
  exact ⟨rfl, K18.out.k.bel⟩
end Go.Proofs.YtkkgpdejmcpcpaaDoor

/- Arguments opened: bytes, with their capacity. -/
namespace Go.Proofs.YtkkgpdejmcpcpaaDoor
open Go.ChangeShapes Go.WideShapes Go.ChangeAt Go.RowKit Go.Deep

theorem byte_of_wf {z : Int} (h : (Lit.int .u8 z).wf = true) : byteV (UInt8.ofNat z.toNat) = .int .u8 z := by
  have hb : 0 ≤ z ∧ z < 256 := by
    have := bounds_u8 h
    omega
  unfold byteV
  congr 1
  simp
  omega
section
variable {H : Type} {enc : TypeId × Value → H} {w : World} {base : Nat} {spare : Nat → Bool} {held : Bool}
theorem open_byt {A : Option Addr} {len cap : Nat} {d : DataW H} {p : List MemPlace} (h : DataW.Trod enc Tryd.prog w base spare held 22 (.slice A len cap) d p) :
    ∃ bs : List UInt8, bs.length = len ∧ Byt w (.slice A len cap) bs ∧ bs.length ≤ maxLen := by
  obtain ⟨fuel, hf⟩ := h
  rcases open_ints Tryd.underlying22 Tryd.underlying5 (by kernel_rfl) hf with ⟨hcs, _⟩ | ⟨x, l, c, zs, hcs, _, hl, hm, hz, _, hcell, hwz⟩
  · simp [Value.cells] at hcs
    obtain ⟨rfl, rfl, rfl⟩ := hcs
    exact ⟨[], rfl, ⟨none, 0, rfl, Nat.le_refl _, fun h => absurd rfl h⟩, Nat.zero_le _⟩
  · simp [Value.cells] at hcs
    obtain ⟨rfl, rfl, rfl⟩ := hcs
    have hlz : len ≤ zs.length := by rw [hz]; split <;> omega
    have hbl : ((zs.take len).map fun z => UInt8.ofNat z.toNat).length = len := by simp; omega
    refine ⟨(zs.take len).map fun z => UInt8.ofNat z.toNat, hbl, ⟨some x, cap, by rw [hbl], by rw [hbl]; omega, fun hne => ?_⟩, by rw [hbl]; omega⟩
    have hpos : 0 < len := by
      rcases Nat.eq_zero_or_pos len with h0 | h0
      · exact absurd (List.eq_nil_of_length_eq_zero (by rw [hbl]; exact h0)) hne
      · exact h0
    have h0 := hcell 0 (by omega)
    obtain ⟨b, off, spot⟩ := x
    have hspot : spot = none := by
      simp [Addr.add] at h0
      exact World.cell?_spot h0
    subst hspot
    refine ⟨b, off, rfl, ?_, fun j u hu => ?_⟩
    · rw [addr_add] at h0
      exact World.block_lt_of_cell? _ _ h0
    · have hj : j < len := by
        have := (List.getElem?_eq_some_iff.1 hu).1
        simp at this
        omega
      have hmem : zs.getD j 0 ∈ zs := by
        rw [List.getD_eq_getElem?_getD, List.getElem?_eq_getElem (by omega)]
        exact List.getElem_mem _
      have hc := hcell j (by omega)
      rw [addr_add] at hc
      rw [hc, ← byte_of_wf (hwz _ hmem)]
      have e : ((zs.take len).map fun z => UInt8.ofNat z.toNat)[j]? = some (UInt8.ofNat (zs.getD j 0).toNat) := by
        simp [List.getD, hj, show j < zs.length by omega]
      rw [e] at hu
      injection hu with hu
      rw [hu]
      rfl
end
end Go.Proofs.YtkkgpdejmcpcpaaDoor

/- Arguments opened: a slice whose elements read as something; ints. -/
namespace Go.Proofs.YtkkgpdejmcpcpaaDoor
open Go.ChangeShapes Go.WideShapes Go.ChangeAt Go.RowKit Go.Deep

/-- The slice x has these elements, of s cells each. -/
def Els {α : Type} (w : World) (s : Nat) (R : α → List Value → Prop) (x : Value) (l : List α) : Prop :=
  ∃ A c, x = .slice A l.length c ∧ l.length ≤ c ∧ (l ≠ [] → ∃ b off, A = some ⟨b, off, none⟩ ∧ b < w.heap.size ∧
    ∀ (i : Nat) (a : α), l[i]? = some a → ∃ cs, cs.length = s ∧ R a cs ∧ ∀ (j : Nat) (u : Value), cs[j]? = some u → w.cell? ⟨b, off + i * s + j, none⟩ = some u)
theorem Els.below {α : Type} {w w' : World} {s : Nat} {R : α → List Value → Prop} {x : Value} {l : List α} (h : Els w s R x l) (hb : Below w.heap.size w w') : Els w' s R x l := by
  obtain ⟨A, c, h1, h2, h3⟩ := h
  refine ⟨A, c, h1, h2, fun h0 => ?_⟩
  obtain ⟨b, off, h4, h5, h6⟩ := h3 h0
  refine ⟨b, off, h4, Nat.lt_of_lt_of_le h5 hb.size, fun i a ha => ?_⟩
  obtain ⟨cs, k1, k2, k3⟩ := h6 i a ha
  exact ⟨cs, k1, k2, fun j u hu => (World.cell?_of_block (w := w) (a := ⟨b, off + i * s + j, none⟩) (hb.block b h5)).trans (k3 j u hu)⟩
theorem Els.mono {α : Type} {w : World} {s : Nat} {R R' : α → List Value → Prop} {x : Value} {l : List α} (h : Els w s R x l) (hR : ∀ a cs, R a cs → R' a cs) : Els w s R' x l := by
  obtain ⟨A, c, h1, h2, h3⟩ := h
  refine ⟨A, c, h1, h2, fun h0 => ?_⟩
  obtain ⟨b, off, h4, h5, h6⟩ := h3 h0
  refine ⟨b, off, h4, h5, fun i a ha => ?_⟩
  obtain ⟨cs, k1, k2, k3⟩ := h6 i a ha
  exact ⟨cs, k1, hR _ _ k2, k3⟩
theorem Els.form {α : Type} {w : World} {s : Nat} {R : α → List Value → Prop} {x : Value} {l : List α} (h : Els w s R x l) : ∃ A c, x = .slice A l.length c ∧ l.length ≤ c := by
  obtain ⟨A, c, h1, h2, _⟩ := h
  exact ⟨A, c, h1, h2⟩
theorem Els.at_ {α : Type} {w : World} {s : Nat} {R : α → List Value → Prop} {A : Option Addr} {n c : Nat} {l : List α} (h : Els w s R (.slice A n c) l) {i : Nat} {a : α} (ha : l[i]? = some a) :
    ∃ b off cs, A = some ⟨b, off, none⟩ ∧ b < w.heap.size ∧ cs.length = s ∧ R a cs ∧ ∀ (j : Nat) (u : Value), cs[j]? = some u → w.cell? ⟨b, off + i * s + j, none⟩ = some u := by
  obtain ⟨A', c', e, _, h3⟩ := h
  injection e with e1 e2 e3
  subst e1
  obtain ⟨b, off, e4, h4, h5⟩ := h3 (by rintro rfl; simp at ha)
  obtain ⟨cs, k1, k2, k3⟩ := h5 i a ha
  exact ⟨b, off, cs, e4, h4, k1, k2, k3⟩
section
variable {H : Type} {enc : TypeId × Value → H} {w : World} {base : Nat} {spare : Nat → Bool} {held : Bool}
theorem open_gen {α : Type} [Inhabited α] {t e : TypeId} {s : Nat} (ht : Tryd.prog.underlying t = some (.slice e)) (hce : Tryd.prog.cellsOf e = s) (hs : 0 < s) (R : α → List Value → Prop)
    (hR : ∀ fuel cs x, DataW.trod enc Tryd.prog w base spare held fuel e cs = some x → cs.length = s → ∃ a, R a cs)
    {A : Option Addr} {len cap : Nat} {d : DataW H} {p : List MemPlace} (h : DataW.Trod enc Tryd.prog w base spare held t (.slice A len cap) d p) :
    ∃ l : List α, l.length = len ∧ Els w s R (.slice A len cap) l ∧ l.length ≤ maxLen := by
  obtain ⟨fuel, hf⟩ := h
  rcases open_slice ht hf with ⟨hcs, _⟩ | ⟨a, l, c, m, n, D, Pl, hcs, hb, hl, hm, hmm, _, hi⟩
  · simp [Value.cells] at hcs
    obtain ⟨rfl, rfl, rfl⟩ := hcs
    exact ⟨[], rfl, ⟨none, 0, rfl, Nat.le_refl _, fun h => absurd rfl h⟩, Nat.zero_le _⟩
  · simp [Value.cells] at hcs
    obtain ⟨rfl, rfl, rfl⟩ := hcs
    have hlm : len ≤ m := by rw [hmm]; split <;> omega
    have hone : ∀ i, i < len → ∃ o : α × List Value, o.2.length = s ∧ R o.1 o.2 ∧ ∀ (j : Nat) (u : Value), o.2[j]? = some u → w.cell? ((a.add (i * s)).add j) = some u := by
      intro i hlt
      obtain ⟨cs', hc, ht⟩ := hi i (by omega)
      rw [hce] at hc
      obtain ⟨_, hcl, hat⟩ := World.cells?_some hc
      obtain ⟨o, ho⟩ := hR _ _ _ ht hcl
      refine ⟨(o, cs'), hcl, ho, fun j u hu => ?_⟩
      have hj : j < s := by rw [← hcl]; exact (List.getElem?_eq_some_iff.1 hu).1
      rw [hat j hj]
      exact hu
    let f : Nat → α := fun i => if h : i < len then (hone i h).choose.1 else default
    have hfl : ((List.range len).map f).length = len := by simp
    refine ⟨(List.range len).map f, hfl, ⟨some a, cap, by rw [hfl], by rw [hfl]; omega, fun hne => ?_⟩, by rw [hfl]; omega⟩
    have hlen : 0 < len := by
      rcases Nat.eq_zero_or_pos len with h0 | h0
      · subst h0; exact absurd rfl hne
      · exact h0
    have hzero : ∀ i (h : i < len), ∃ u, w.cell? ((a.add (i * s)).add 0) = some u := by
      intro i h
      obtain ⟨o, h1, h2, h3⟩ := hone i h
      exact ⟨o.2[0], h3 0 _ (List.getElem?_eq_getElem (by omega))⟩
    obtain ⟨b, off, spot⟩ := a
    have hspot : spot = none := by
      obtain ⟨u, this⟩ := hzero 0 hlen
      simp [Addr.add] at this
      exact World.cell?_spot this
    subst hspot
    have had : ∀ b o i, (⟨b, o, none⟩ : Addr).add i = ⟨b, o + i, none⟩ := by intro b o i; unfold Addr.add; split <;> simp_all
    refine ⟨b, off, rfl, ?_, fun i o ho => ?_⟩
    · obtain ⟨u, this⟩ := hzero 0 hlen
      have h2 := World.block_lt_of_cell? _ _ this
      simpa [had] using h2
    · have hi' : i < len := by
        have := (List.getElem?_eq_some_iff.1 ho).1
        simpa using this
      have e : ((List.range len).map f)[i]? = some (hone i hi').choose.1 := by
        simp [f, hi']
      rw [e] at ho
      injection ho with ho
      subst ho
      obtain ⟨h1, h2, h3⟩ := (hone i hi').choose_spec
      refine ⟨(hone i hi').choose.2, h1, h2, fun j u hu => ?_⟩
      have := h3 j u hu
      rw [had, had] at this
      exact this
/-! ### ints -/
def IntR (z : Int) (cs : List Value) : Prop := cs = [.int .i64 z] ∧ (Lit.int .i64 z).wf = true
theorem open_ints2 {A : Option Addr} {len cap : Nat} {d : DataW H} {p : List MemPlace} (h : DataW.Trod enc Tryd.prog w base spare held 57 (.slice A len cap) d p) :
    ∃ l : List Int, l.length = len ∧ Els w 1 IntR (.slice A len cap) l ∧ l.length ≤ maxLen := by
  refine open_gen Tryd.underlying57 (by kernel_rfl) (by omega) IntR (fun fuel cs x hx hl => ?_) h
  obtain ⟨z, e0, _, hw⟩ := DataW.trod_int Tryd.underlying3 hx
  exact ⟨z, e0, hw⟩
end
end Go.Proofs.YtkkgpdejmcpcpaaDoor

/- Arguments opened: bools; slices of ints. -/
namespace Go.Proofs.YtkkgpdejmcpcpaaDoor
open Go.ChangeShapes Go.WideShapes Go.ChangeAt Go.RowKit Go.Deep
section
variable {H : Type} {enc : TypeId × Value → H} {w : World} {base : Nat} {spare : Nat → Bool} {held : Bool}
def BoolR (b : Bool) (cs : List Value) : Prop := cs = [.bool b]
theorem open_bools {A : Option Addr} {len cap : Nat} {d : DataW H} {p : List MemPlace} (h : DataW.Trod enc Tryd.prog w base spare held 49 (.slice A len cap) d p) :
    ∃ l : List Bool, l.length = len ∧ Els w 1 BoolR (.slice A len cap) l ∧ l.length ≤ maxLen := by
  refine open_gen Tryd.underlying49 (by kernel_rfl) (by omega) BoolR (fun fuel cs x hx hl => ?_) h
  obtain ⟨z, e0, _⟩ := DataW.trod_bool Tryd.underlying4 hx
  exact ⟨z, e0⟩
def IntsR (w : World) (zs : List Int) (cs : List Value) : Prop := ∃ v, cs = [v] ∧ Els w 1 IntR v zs ∧ zs.length ≤ maxLen
/-- An argument's bytes are no more than a machine reaches. -/
theorem byt_sized {A : Option Addr} {len cap : Nat} {d : DataW H} {p : List MemPlace} (h : DataW.Trod enc Tryd.prog w base spare held 22 (.slice A len cap) d p) {ts : List TypeId} {ds : List (DataW H)} {j : Nat}
    (hz : (DataW.weightsEach Tryd.prog ts ds).all (· ≤ reachBytes) = true) (ht : ts[j]? = some 22) (hd : ds[j]? = some d) : len ≤ 140737488351232 := by
  obtain ⟨fuel, hf⟩ := h
  rcases open_slice Tryd.underlying22 hf with ⟨hcs, _⟩ | ⟨a, l, c, m, n, D, Pl, hcs, hb, hl, hm, hmm, hx, _⟩
  · simp [Value.cells] at hcs
    obtain ⟨rfl, rfl, rfl⟩ := hcs
    omega
  · simp [Value.cells] at hcs
    obtain ⟨rfl, rfl, rfl⟩ := hcs
    injection hx with hx1 _
    subst hx1
    have h1 := sized_slice hz ht hd Tryd.underlying22
    rw [show Tryd.prog.bytesOf 5 = 1 by kernel_rfl] at h1
    simp only [List.length_map, List.length_range, Nat.mul_one] at h1
    unfold reachBytes at h1
    omega
end
end Go.Proofs.YtkkgpdejmcpcpaaDoor

/- SyntaxKinds: plain; what the walk holds. -/
namespace Go.Proofs.YtkkgpdejmcpcpaaDoor
open Go.RowKit

theorem nums_nilS (W : World) : Nums W nilS [] := ⟨none, 0, rfl, Nat.le_refl _, fun h => absurd rfl h⟩
/-- The parts, as numbers and lists. -/
theorem parts_num (W : World) (s : SqS) (m0 m1 m2 m3 : Int) (lv v0 v1 v2 v3 : Value) (l0 l1 l2 l3 : List Int) (hm : s.modes = [m0, m1, m2, m3]) (hs : s.small = [l0, l1, l2, l3]) (h : ∀ p ∈ [(lv, s.large), (v0, l0), (v1, l1), (v2, l2), (v3, l3)], Nums W p.1 p.2) (hk : s.kind = 0 ∨ s.kind = 1 ∨ s.kind = 2 ∨ s.kind = 3) :
    ∃ n0 n1 n2 n3 lu u0 u1 u2 u3 q0 q1 q2 q3, partsV s.kind s.mode m0 m1 m2 m3 s.x s.y lv v0 v1 v2 v3 = sqV (partsS s).kind (partsS s).mode n0 n1 n2 n3 (partsS s).x (partsS s).y lu u0 u1 u2 u3 ∧ (partsS s).modes = [n0, n1, n2, n3] ∧ (partsS s).small = [q0, q1, q2, q3] ∧ ∀ p ∈ [(lu, (partsS s).large), (u0, q0), (u1, q1), (u2, q2), (u3, q3)], Nums W p.1 p.2 := by
  have hn := nums_nilS W
  have h0 := h (lv, s.large) (by simp)
  have h1 := h (v0, l0) (by simp)
  have h2 := h (v1, l1) (by simp)
  have h3 := h (v2, l2) (by simp)
  have h4 := h (v3, l3) (by simp)
  unfold partsV partsS
  rcases hk with e | e | e | e
  · rw [e]
    refine ⟨0, 0, 0, 0, nilS, nilS, nilS, nilS, nilS, [], [], [], [], rfl, rfl, rfl, fun p hp => ?_⟩
    simp only [List.mem_cons, List.not_mem_nil, or_false] at hp
    rcases hp with rfl | rfl | rfl | rfl | rfl <;> exact hn
  · rw [e]
    refine ⟨0, 0, 0, 0, lv, nilS, nilS, nilS, nilS, [], [], [], [], rfl, rfl, rfl, fun p hp => ?_⟩
    simp only [List.mem_cons, List.not_mem_nil, or_false] at hp
    rcases hp with rfl | rfl | rfl | rfl | rfl
    · exact h0
    all_goals exact hn
  · rw [e]
    refine ⟨0, 0, 0, 0, lv, nilS, nilS, nilS, nilS, [], [], [], [], rfl, rfl, rfl, fun p hp => ?_⟩
    simp only [List.mem_cons, List.not_mem_nil, or_false] at hp
    rcases hp with rfl | rfl | rfl | rfl | rfl
    · exact h0
    all_goals exact hn
  · rw [e]
    refine ⟨m0, m1, m2, m3, nilS, v0, v1, v2, v3, l0, l1, l2, l3, rfl, hm, hs, fun p hp => ?_⟩
    simp only [List.mem_cons, List.not_mem_nil, or_false] at hp
    rcases hp with rfl | rfl | rfl | rfl | rfl
    · exact hn
    · exact h1
    · exact h2
    · exact h3
    · exact h4
theorem ok_code20 {σ : Type} {M : Mach σ} {fB fF : FuncId} {me : Value} {At : World → (Nat → Prop) → σ → Prop} {Ok : σ → Nat → Prop} (H : IsCoder M fB fF me At Ok) (key : Bool) (s : SqS) (h4 : s.modes.length ≤ 4) (st : σ) (lim : Nat) (h : Ok st lim) : ∃ m, m ≤ lim + 9000 ∧ Ok (M.run (codeA key s) st).2 m := by
  obtain ⟨m, h1, h2⟩ := H.okRun (codeA key s) 2853 (ctx_code key s) (most_code key s h4) st lim h
  exact ⟨m, by omega, h2⟩
/-- A list that was told, for another coder whose blocks are older. -/
theorem Lst.noff {w0 W : World} {F G : Nat → Prop} {v : Value} {l : List Int} (h : Lst w0 v l W F) (hG : ∀ k, G k → k < w0.heap.size) : NOff v l W G := by
  rcases h with ⟨rfl, rfl⟩ | ⟨g, rfl, h2⟩
  · exact ⟨nums_nilS W, fun k hk => by simp [Value.ownBlock] at hk, fun k hk => by simp [Value.ownBlock] at hk⟩
  · exact noff_new h2.b rfl rfl (fun e => by have := hG g e; have := h2.lo; omega)
theorem canon_len {key : Bool} {q : SqS} (h : RightS key q) (hp : partsS q = q) : q.large.length ≤ 64 ∧ ∀ l ∈ q.small, l.length ≤ 16 := by
  have hk0 := h.k0
  have hk3 := h.k3
  have hc : q.kind = 0 ∨ q.kind = 1 ∨ q.kind = 2 ∨ q.kind = 3 := by omega
  have hs4 : ∀ l ∈ ([[], [], [], []] : List (List Int)), l.length ≤ 16 := by decide
  rcases hc with e | e | e | e
  · have h1 : q.large = (partsS q).large := by rw [hp]
    have h2 : q.small = (partsS q).small := by rw [hp]
    unfold partsS at h1 h2
    rw [e] at h1 h2
    rw [h1, h2]
    exact ⟨by show (0 : Nat) ≤ 64; omega, hs4⟩
  · have h2 : q.small = (partsS q).small := by rw [hp]
    unfold partsS at h2
    rw [e] at h2
    rw [h2]
    exact ⟨by rw [(h.large (.inl e)).1]; omega, hs4⟩
  · have h2 : q.small = (partsS q).small := by rw [hp]
    unfold partsS at h2
    rw [e] at h2
    rw [h2]
    exact ⟨by rw [(h.large (.inr e)).1]; omega, hs4⟩
  · have h1 : q.large = (partsS q).large := by rw [hp]
    unfold partsS at h1
    rw [e] at h1
    rw [h1]
    exact ⟨by show (0 : Nat) ≤ 64; omega, fun l hl => by rw [((h.three e).2 l hl).1]; omega⟩
/-- Two coders, a square in its block with its lists. -/
structure KQ {σ τ : Type} (w : World) (A1 : World → (Nat → Prop) → σ → Prop) (A2 : World → (Nat → Prop) → τ → Prop) (F G : Nat → Prop) (s : σ) (t : τ) (ob : Nat) (q : SqS) (m0 m1 m2 m3 : Int) (lv v0 v1 v2 v3 : Value) (l0 l1 l2 l3 : List Int) (W : World) : Prop where
  T : TwoAt w.heap.size w A1 A2 F G s t W
  b : SqBlk W ob 60 q.kind q.mode [m0, m1, m2, m3] q.x q.y lv [v0, v1, v2, v3]
  oF : ¬ F ob
  oG : ¬ G ob
  n : ∀ p ∈ [(lv, q.large), (v0, l0), (v1, l1), (v2, l2), (v3, l3)], NOff p.1 p.2 W G
section
variable {σ τ : Type} {M : Mach σ} {N : Mach τ} {f1 f2 f3 f4 : FuncId} {e1 e2 : Value} {A1 : World → (Nat → Prop) → σ → Prop} {A2 : World → (Nat → Prop) → τ → Prop} {O1 : σ → Nat → Prop} {O2 : τ → Nat → Prop}
variable {w W W' : World} {F G G' : Nat → Prop} {s : σ} {t t' : τ} {ob : Nat} {q : SqS} {m0 m1 m2 m3 : Int} {lv v0 v1 v2 v3 : Value} {l0 l1 l2 l3 : List Int}
theorem KQ.below (H1 : IsCoder M f1 f2 e1 A1 O1) (H2 : IsCoder N f3 f4 e2 A2 O2) (h : KQ w A1 A2 F G s t ob q m0 m1 m2 m3 lv v0 v1 v2 v3 l0 l1 l2 l3 W) (hb : Below W.heap.size W W') : KQ w A1 A2 F G s t ob q m0 m1 m2 m3 lv v0 v1 v2 v3 l0 l1 l2 l3 W' :=
  ⟨h.T.below H1 H2 hb, h.b.below hb, h.oF, h.oG, fun p hp => (h.n p hp).below hb⟩
theorem KQ.right (H1 : IsCoder M f1 f2 e1 A1 O1) (h : KQ w A1 A2 F G s t ob q m0 m1 m2 m3 lv v0 v1 v2 v3 l0 l1 l2 l3 W) (c : CW A2 W G t' W' G') : KQ w A1 A2 F G' s t' ob q m0 m1 m2 m3 lv v0 v1 v2 v3 l0 l1 l2 l3 W' :=
  ⟨h.T.rightC H1 c, h.b.keep c.o h.oG, h.oF, fun e => by
    rcases c.f ob e with e | e
    · exact h.oG e
    · have := h.b.lt; omega, fun p hp => (h.n p hp).moved c.o c.f⟩
end
end Go.Proofs.YtkkgpdejmcpcpaaDoor

