/- Chapter 26: Parse, the program's and the document's. -/
import Derived.Test.YtabklmkdneoaaaaDoorGB
/- log.Parse: the walk. -/
namespace Go.Proofs.YtabklmkdneoaaaaDoor
open Go.RowKit

def parseRec (k : Int) (d : List UInt8) : Option RecS :=
  if k = 50 then (match d with | [c] => some ⟨50, 0, 0, 0, c.toNat⟩ | _ => none)
  else if k = 48 then (match d with | [a, b, c, e, n] => some ⟨48, (be [a, b, c, e] : Nat), n.toNat, 0, 0⟩ | _ => none)
  else if k = 49 then (match d with | [n, a, b, c, e, f, g, h, i] => some ⟨49, (be [f, g, h, i] : Nat), n.toNat, (be [a, b, c, e] : Nat), 0⟩ | _ => none)
  else (match d with | [a, b, c, e, f, g, h, i] => some ⟨k, (be [f, g, h, i] : Nat), 0, (be [a, b, c, e] : Nat), 0⟩ | _ => none)
def parseR (k : Int) (d : List UInt8) : Int × RecS :=
  if kindB k = false then (13, recZ)
  else match parseRec k d with
    | none => (2, recZ)
    | some r => if mayR r then (0, r) else (2, recZ)
def recLen (k : Nat) : Nat := if k = 50 then 1 else if k = 48 then 5 else if k = 49 then 9 else 8
theorem parseRec_none {k : Nat} {d : List UInt8} (hk : k = 48 ∨ k = 49 ∨ k = 50 ∨ k = 51) (h : d.length ≠ recLen k) : parseRec k d = none := by
  unfold parseRec
  rcases hk with rfl | rfl | rfl | rfl
  all_goals
    simp [recLen] at h ⊢
    split
    · simp at h
    · rfl
theorem len5 {d : List UInt8} (h : d.length = 5) : ∃ a b c e n, d = [a, b, c, e, n] := by
  match d, h with
  | [a, b, c, e, n], _ => exact ⟨a, b, c, e, n, rfl⟩
theorem len9 {d : List UInt8} (h : d.length = 9) : ∃ n a b c e f g i j, d = [n, a, b, c, e, f, g, i, j] := by
  match d, h with
  | [n, a, b, c, e, f, g, i, j], _ => exact ⟨n, a, b, c, e, f, g, i, j, rfl⟩
theorem len8 {d : List UInt8} (h : d.length = 8) : ∃ a b c e f g i j, d = [a, b, c, e, f, g, i, j] := by
  match d, h with
  | [a, b, c, e, f, g, i, j], _ => exact ⟨a, b, c, e, f, g, i, j, rfl⟩
theorem len1 {d : List UInt8} (h : d.length = 1) : ∃ a, d = [a] := by
  match d, h with
  | [a], _ => exact ⟨a, rfl⟩
def ParseRes (p : Int × RecS) (w : World) (e : Ending) (w' : World) : Prop := e = .returned (.tuple #[p.2.val, codeV p.1]) ∧ Below w.heap.size w w'
/-- The unit's block, the answer's, the record's. -/
structure PS (w : World) (k : Int) (dv : Value) (a z : Int) (tc : Array Value) (W : World) : Prop where
  u : Blk W w.heap.size 35 #[.int .i64 k, dv, .int .i64 a, .int .i64 z]
  r : Blk W (w.heap.size + 1) 73 #[.int .i64 0, .int .i64 0, .int .i64 0, .int .i64 0, .int .i64 0]
  t : Blk W (w.heap.size + 2) 73 tc
  bel : Below w.heap.size w W
  size : w.heap.size + 3 ≤ W.heap.size
section
variable {w W W' : World} {k a z : Int} {dv : Value} {tc : Array Value}
theorem PS.new (w : World) (k : Int) (dv : Value) (a z : Int) (tc : Array Value) : PS w k dv a z tc (((w.alloc (.cells #[.int .i64 k, dv, .int .i64 a, .int .i64 z] 35)).alloc (.cells #[.int .i64 0, .int .i64 0, .int .i64 0, .int .i64 0, .int .i64 0] 73)).alloc (.cells tc 73)) :=
  ⟨((Blk.new _ _ _).alloc _).alloc _, (blk_new_at (by simp) _ _).alloc _, blk_new_at (by simp) _ _, (((Below.refl _ _).alloc (Nat.le_refl _) _).alloc (by simp) _).alloc (by simp; omega) _, by simp⟩
theorem PS.step (h : PS w k dv a z tc W) (hb : Below W.heap.size W W') : PS w k dv a z tc W' :=
  ⟨h.u.below hb h.u.lt, h.r.below hb h.r.lt, h.t.below hb h.t.lt, h.bel.trans (hb.mono h.bel.size), Nat.le_trans h.size hb.size⟩
theorem PS.drewN (h : PS w k dv a z tc W) (n : Nat) : PS w k dv a z tc (W.drewN n) := ⟨h.u, h.r, h.t, ⟨h.bel.os, h.bel.tape, h.bel.output, h.bel.size, h.bel.block⟩, h.size⟩
theorem PS.put (h : PS w k dv a z tc W) (i : Nat) (v : Value) : PS w k dv a z (tc.setIfInBounds i v) (W.setCell ⟨w.heap.size + 2, i, none⟩ v) :=
  ⟨h.u.far (by show w.heap.size ≠ w.heap.size + 2; omega) _, h.r.far (by show w.heap.size + 1 ≠ w.heap.size + 2; omega) _, h.t.put i v, ⟨h.bel.os, h.bel.tape, h.bel.output, by simpa [World.setCell] using h.bel.size, fun q hq => (Below.heap_setCell W ⟨w.heap.size + 2, i, none⟩ v q (by show q ≠ w.heap.size + 2; omega)).trans (h.bel.block q hq)⟩, by simpa [World.setCell] using h.size⟩
theorem PS.ucells (h : PS w k dv a z tc W) : W.cell? ⟨w.heap.size, 0, none⟩ = some (.int .i64 k) ∧ W.cell? ⟨w.heap.size, 1, none⟩ = some dv := by
  refine ⟨?_, ?_⟩ <;> (rw [h.u.cell]; rfl)
theorem PS.rcells (h : PS w k dv a z tc W) : W.cell? ⟨w.heap.size + 1, 0, none⟩ = some (.int .i64 0) ∧ W.cell? ⟨w.heap.size + 1, 1, none⟩ = some (.int .i64 0) ∧ W.cell? ⟨w.heap.size + 1, 2, none⟩ = some (.int .i64 0) ∧ W.cell? ⟨w.heap.size + 1, 3, none⟩ = some (.int .i64 0) ∧ W.cell? ⟨w.heap.size + 1, 4, none⟩ = some (.int .i64 0) := by
  refine ⟨?_, ?_, ?_, ?_, ?_⟩ <;> (rw [h.r.cell]; rfl)
theorem PS.rfr (h : PS w k dv a z tc W) : W.frozen? ⟨w.heap.size + 1, 0, none⟩ = false ∧ W.frozen? ⟨w.heap.size + 1, 1, none⟩ = false ∧ W.frozen? ⟨w.heap.size + 1, 2, none⟩ = false ∧ W.frozen? ⟨w.heap.size + 1, 3, none⟩ = false ∧ W.frozen? ⟨w.heap.size + 1, 4, none⟩ = false := ⟨h.r.frozen 0, h.r.frozen 1, h.r.frozen 2, h.r.frozen 3, h.r.frozen 4⟩
theorem PS.tfr (h : PS w k dv a z tc W) : W.frozen? ⟨w.heap.size + 2, 0, none⟩ = false ∧ W.frozen? ⟨w.heap.size + 2, 1, none⟩ = false ∧ W.frozen? ⟨w.heap.size + 2, 2, none⟩ = false ∧ W.frozen? ⟨w.heap.size + 2, 3, none⟩ = false ∧ W.frozen? ⟨w.heap.size + 2, 4, none⟩ = false := ⟨h.t.frozen 0, h.t.frozen 1, h.t.frozen 2, h.t.frozen 3, h.t.frozen 4⟩
theorem PS.tcells {t0 t1 t2 t3 t4 : Value} (h : PS w k dv a z #[t0, t1, t2, t3, t4] W) : W.cell? ⟨w.heap.size + 2, 0, none⟩ = some t0 ∧ W.cell? ⟨w.heap.size + 2, 1, none⟩ = some t1 ∧ W.cell? ⟨w.heap.size + 2, 2, none⟩ = some t2 ∧ W.cell? ⟨w.heap.size + 2, 3, none⟩ = some t3 ∧ W.cell? ⟨w.heap.size + 2, 4, none⟩ = some t4 := by
  refine ⟨?_, ?_, ?_, ?_, ?_⟩ <;> (rw [h.t.cell]; rfl)
/-- The answer laid: five stores. -/
def lay5 (w W : World) (a0 a1 a2 a3 a4 : Value) : World := ((((W.setCell ⟨w.heap.size + 1, 0, none⟩ a0).setCell ⟨w.heap.size + 1, 1, none⟩ a1).setCell ⟨w.heap.size + 1, 2, none⟩ a2).setCell ⟨w.heap.size + 1, 3, none⟩ a3).setCell ⟨w.heap.size + 1, 4, none⟩ a4
theorem PS.lay (h : PS w k dv a z tc W) (a0 a1 a2 a3 a4 : Value) : Below w.heap.size w (lay5 w W a0 a1 a2 a3 a4) ∧ (lay5 w W a0 a1 a2 a3 a4).cell? ⟨w.heap.size + 1, 0, none⟩ = some a0 ∧ (lay5 w W a0 a1 a2 a3 a4).cell? ⟨w.heap.size + 1, 1, none⟩ = some a1 ∧ (lay5 w W a0 a1 a2 a3 a4).cell? ⟨w.heap.size + 1, 2, none⟩ = some a2 ∧ (lay5 w W a0 a1 a2 a3 a4).cell? ⟨w.heap.size + 1, 3, none⟩ = some a3 ∧ (lay5 w W a0 a1 a2 a3 a4).cell? ⟨w.heap.size + 1, 4, none⟩ = some a4 := by
  have hO : Only (fun k => k = w.heap.size + 1) W (lay5 w W a0 a1 a2 a3 a4) := (((((Only.refl (fun k => k = w.heap.size + 1) W).put (b := w.heap.size + 1) rfl 0 _).put (b := w.heap.size + 1) rfl 1 _).put (b := w.heap.size + 1) rfl 2 _).put (b := w.heap.size + 1) rfl 3 _).put (b := w.heap.size + 1) rfl 4 _
  have hk := ((((h.r.put 0 a0).put 1 a1).put 2 a2).put 3 a3).put 4 a4
  have hk' : Blk (lay5 w W a0 a1 a2 a3 a4) (w.heap.size + 1) 73 #[a0, a1, a2, a3, a4] := hk
  refine ⟨h.bel.trans ⟨hO.os, hO.tape, hO.output, hO.size, fun k hk => hO.block k (by have := h.bel.size; omega) (by omega)⟩, ?_, ?_, ?_, ?_, ?_⟩ <;> (rw [hk'.cell]; rfl)
end
set_option maxRecDepth 100000 in
set_option maxHeartbeats 1000000 in
theorem gparse_kind (k a z : Int) (dv : Value) (w : World) (h : kindB k = false) : Calls Tryd.prog 61 #[.agg #[.int .i64 k, dv, .int .i64 a, .int .i64 z]] w (ParseRes (13, recZ) w) := by
  have HK : Hid (∀ W, Calls Tryd.prog 85 #[.int .i64 k] W fun e w' => e = .returned (.bool false) ∧ W = w') := fun W => (gkind_any k W).mono fun _ _ h' => ⟨by rw [h'.1, h], h'.2⟩
  clear h
  go_enter Tryd.func61, Tryd.ntmps61
  go_wp2_with fail
  refine (HK.out _).mono ?_
  rintro e w2 ⟨rfl, rfl⟩
  go_wp2_with fail
  exact bodyPost_ret (v := .tuple #[recZ.val, codeV 13]) (by simp [results, Tryd.results61, go_sem, recZ, RecS.val, codeV]) rfl ⟨rfl, ((Below.refl _ _).alloc (Nat.le_refl _) _).alloc (by simp) _⟩
set_option maxRecDepth 100000 in
set_option maxHeartbeats 1000000 in
theorem gparse_form (k : Nat) (a z : Int) (A : Option Addr) (m c : Nat) (w : World) (hk : k = 48 ∨ k = 49 ∨ k = 50 ∨ k = 51) (hm : m ≠ recLen k) : Calls Tryd.prog 61 #[.agg #[.int .i64 k, .slice A m c, .int .i64 a, .int .i64 z]] w (ParseRes (2, recZ) w) := by
  have HK : Hid (∀ W, Calls Tryd.prog 85 #[.int .i64 k] W fun e w' => e = .returned (.bool true) ∧ W = w') := fun W => (gkind_any k W).mono fun _ _ h' => ⟨by rw [h'.1]; rcases hk with rfl | rfl | rfl | rfl <;> rfl, h'.2⟩
  have HD := hid (fun W => gdata_any k 0 0 0 0 W hk (by omega) (by omega))
  have hrl : (recData k 0 0 0 0).length = recLen k := by rcases hk with rfl | rfl | rfl | rfl <;> rfl
  unfold DataRes recV at HD
  rw [hrl] at HD
  have P0 := hid (PS.new w k (.slice A m c) a z #[.int .i64 k, .int .i64 0, .int .i64 0, .int .i64 0, .int .i64 0])
  generalize recLen k = L at *
  have hne : ((m : Int) != (L : Int)) = true := by simp; omega
  clear hk hrl hm
  go_enter Tryd.func61, Tryd.ntmps61
  go_wp2_with fail
  refine (HK.out _).mono ?_
  rintro e w2 ⟨rfl, rfl⟩
  go_wp2_with fail
  refine (HD.out _).mono ?_
  rintro e w3 ⟨A3, c3, rfl, hO⟩
  have P3 := hid (P0.out.step ⟨hO.2.1.os, hO.2.1.tape, hO.2.1.output, hO.2.1.size, hO.2.1.block⟩)
  clear hO
  obtain ⟨r0, r1, r2, r3, r4⟩ := P3.out.rcells
  obtain ⟨f0, f1, f2, f3, f4⟩ := P3.out.rfr
  go_wp2_with fail
  obtain ⟨h0, h1, h2, h3, h4, h5⟩ := P3.out.lay (.int .i64 0) (.int .i64 0) (.int .i64 0) (.int .i64 0) (.int .i64 0)
  unfold lay5 at *
  exact bodyPost_ret (v := .tuple #[recZ.val, codeV 2]) (by simp [results, Tryd.results61, go_sem, recZ, RecS.val, codeV, h1, h2, h3, h4, h5]) rfl ⟨rfl, h0⟩
end Go.Proofs.YtabklmkdneoaaaaDoor
/- log.Parse: the walks of what is parsed. -/
namespace Go.Proofs.YtabklmkdneoaaaaDoor
open Go.RowKit

set_option maxRecDepth 100000 in
set_option maxHeartbeats 2000000 in
theorem gparse_fail (x0 : UInt8) (a z : Int) (dv : Value) (w : World) (hx : Byt w dv [x0]) : Calls Tryd.prog 61 #[.agg #[.int .i64 50, dv, .int .i64 a, .int .i64 z]] w (ParseRes (if mayR ⟨50, 0, 0, 0, x0.toNat⟩ then (0, ⟨50, 0, 0, 0, x0.toNat⟩) else (2, recZ)) w) := by
  have HK : Hid (∀ W, Calls Tryd.prog 85 #[.int .i64 50] W fun e w' => e = .returned (.bool true) ∧ W = w') := fun W => (gkind_any 50 W).mono fun _ _ h' => ⟨by rw [h'.1]; rfl, h'.2⟩
  have HD := hid (fun W => gdata_any 50 0 0 0 0 W (by omega) (by omega) (by omega))
  unfold DataRes recV at HD
  have hrl : (recData ((50 : Nat) : Int) 0 0 0 0).length = 1 := rfl
  rw [hrl] at HD
  have HM : Hid (∀ W, Calls Tryd.prog 49 #[.agg #[.int .i64 50, .int .i64 0, .int .i64 0, .int .i64 0, .int .i64 x0.toNat]] W fun e w' => e = .returned (.bool (mayR ⟨50, 0, 0, 0, x0.toNat⟩)) ∧ Below W.heap.size W w') := fun W => gmay_any ⟨50, 0, 0, 0, x0.toNat⟩ W
  generalize mayR ⟨50, 0, 0, 0, x0.toNat⟩ = m at *
  obtain ⟨q, hq⟩ : ∃ q, q = (if m = true then ((0 : Int), (⟨50, 0, 0, 0, x0.toNat⟩ : RecS)) else (2, recZ)) := ⟨_, rfl⟩
  rw [← hq]
  have HQ := hid hq
  clear hq
  obtain ⟨A, c, hdv, hcc⟩ := hx.form
  have hdv' : dv = .slice A 1 c := hdv
  subst hdv'
  clear hdv
  obtain ⟨b, off, uu, rfl, hb0, _, _⟩ := Byt.at_ (bs := [x0]) hx (j := 0) (by simp)
  have hcn : 1 ≤ c := hcc
  have P0 := hid (PS.new w 50 (.slice (some ⟨b, off, none⟩) 1 c) a z #[.int .i64 50, .int .i64 0, .int .i64 0, .int .i64 0, .int .i64 0])
  have X := hid (And.intro hx hb0)
  have l0 := x0.toNat_lt
  clear hrl hx hcc hb0
  go_enter Tryd.func61, Tryd.ntmps61
  go_wp2_with fail
  refine (HK.out _).mono ?_
  rintro e w2 ⟨rfl, rfl⟩
  go_wp2_with fail
  refine (HD.out _).mono ?_
  rintro e w3 ⟨A3, c3, rfl, hO⟩
  have P3 := hid (P0.out.step ⟨hO.2.1.os, hO.2.1.tape, hO.2.1.output, hO.2.1.size, hO.2.1.block⟩)
  clear hO
  obtain ⟨u0, u1⟩ := P3.out.ucells
  obtain ⟨t0, t1, t2, t3, t4⟩ := P3.out.tcells
  obtain ⟨f0, f1, f2, f3, f4⟩ := P3.out.tfr
  have X3 := hid (X.out.1.below P3.out.bel)
  have c0 : w3.cell? ⟨b, off, none⟩ = some (.int .u8 x0.toNat) := Byt.cell (bs := [x0]) X3.out 0 x0 rfl
  go_wp2_with fail
  have P4 := hid (P3.out.put 4 (.int .i64 x0.toNat))
  refine (HM.out _).mono ?_
  rintro e w9 ⟨rfl, hb⟩
  have P9 := hid (PS.step P4.out hb)
  clear hb
  obtain ⟨r0, r1, r2, r3, r4⟩ := P9.out.rcells
  obtain ⟨f0, f1, f2, f3, f4⟩ := P9.out.rfr
  obtain ⟨t0, t1, t2, t3, t4⟩ := P9.out.tcells
  cases m
  · have hq := HQ.out
    rw [if_neg (by simp)] at hq
    subst hq
    go_wp2_with fail
    obtain ⟨h0, h1, h2, h3, h4, h5⟩ := P9.out.lay (.int .i64 0) (.int .i64 0) (.int .i64 0) (.int .i64 0) (.int .i64 0)
    unfold lay5 at *
    exact bodyPost_ret (v := .tuple #[recZ.val, codeV 2]) (by simp [results, Tryd.results61, go_sem, recZ, RecS.val, codeV, h1, h2, h3, h4, h5]) rfl ⟨rfl, h0⟩
  · have hq := HQ.out
    rw [if_pos rfl] at hq
    subst hq
    go_wp2_with fail
    obtain ⟨h0, h1, h2, h3, h4, h5⟩ := P9.out.lay (.int .i64 (50)) (.int .i64 (0)) (.int .i64 (0)) (.int .i64 (0)) (.int .i64 (x0.toNat))
    unfold lay5 at *
    exact bodyPost_ret (v := .tuple #[.agg #[.int .i64 50, .int .i64 0, .int .i64 0, .int .i64 0, .int .i64 x0.toNat], .nilIface]) (by simp [results, Tryd.results61, go_sem, h1, h2, h3, h4, h5]) rfl ⟨rfl, h0⟩
theorem far_cell {W : World} {b i n : Nat} {v : Value} (h : W.cell? ⟨b, i, none⟩ = some v) (hb : b < n) (j : Nat) (u : Value) : (W.setCell ⟨n + 2, j, none⟩ u).cell? ⟨b, i, none⟩ = some v :=
  (World.cell?_of_block (w := W) (a := ⟨b, i, none⟩) (Below.heap_setCell W ⟨n + 2, j, none⟩ u b (by show b ≠ n + 2; omega))).trans h
theorem bel_drewN (w : World) (n : Nat) : Below w.heap.size w (w.drewN n) := ⟨rfl, rfl, rfl, Nat.le_refl _, fun _ _ => rfl⟩
set_option maxRecDepth 100000 in
set_option maxHeartbeats 2000000 in
theorem gparse_start (x0 x1 x2 x3 x4 : UInt8) (a z : Int) (dv : Value) (w : World) (hx : Byt w dv [x0, x1, x2, x3, x4]) : Calls Tryd.prog 61 #[.agg #[.int .i64 48, dv, .int .i64 a, .int .i64 z]] w (ParseRes (if mayR ⟨48, (be [x0, x1, x2, x3] : Nat), x4.toNat, 0, 0⟩ then (0, ⟨48, (be [x0, x1, x2, x3] : Nat), x4.toNat, 0, 0⟩) else (2, recZ)) w) := by
  have HK : Hid (∀ W, Calls Tryd.prog 85 #[.int .i64 48] W fun e w' => e = .returned (.bool true) ∧ W = w') := fun W => (gkind_any 48 W).mono fun _ _ h' => ⟨by rw [h'.1]; rfl, h'.2⟩
  have HD := hid (fun W => gdata_any 48 0 0 0 0 W (by omega) (by omega) (by omega))
  unfold DataRes recV at HD
  have hrl : (recData ((48 : Nat) : Int) 0 0 0 0).length = 5 := rfl
  rw [hrl] at HD
  have HM : Hid (∀ W, Calls Tryd.prog 49 #[.agg #[.int .i64 48, .int .i64 (be [x0, x1, x2, x3] : Nat), .int .i64 x4.toNat, .int .i64 0, .int .i64 0]] W fun e w' => e = .returned (.bool (mayR ⟨48, (be [x0, x1, x2, x3] : Nat), x4.toNat, 0, 0⟩)) ∧ Below W.heap.size W w') := fun W => gmay_any ⟨48, (be [x0, x1, x2, x3] : Nat), x4.toNat, 0, 0⟩ W
  generalize mayR ⟨48, (be [x0, x1, x2, x3] : Nat), x4.toNat, 0, 0⟩ = m at *
  obtain ⟨q, hq⟩ : ∃ q, q = (if m = true then ((0 : Int), (⟨48, (be [x0, x1, x2, x3] : Nat), x4.toNat, 0, 0⟩ : RecS)) else (2, recZ)) := ⟨_, rfl⟩
  rw [← hq]
  have HQ := hid hq
  clear hq
  obtain ⟨A, c, hdv, hcc⟩ := hx.form
  have hdv' : dv = .slice A 5 c := hdv
  subst hdv'
  clear hdv
  obtain ⟨b, off, uu, rfl, hb0, _, _⟩ := Byt.at_ (bs := [x0, x1, x2, x3, x4]) hx (j := 0) (by simp)
  have hcn : 5 ≤ c := hcc
  have P0 := hid (PS.new w 48 (.slice (some ⟨b, off, none⟩) 5 c) a z #[.int .i64 48, .int .i64 0, .int .i64 0, .int .i64 0, .int .i64 0])
  have X := hid (And.intro hx hb0)
  have HG : Hid (∀ W, Byt W (.slice (some ⟨b, off, none⟩) 5 c) [x0, x1, x2, x3, x4] → Calls Tryd.prog 93 #[.slice (some ⟨b, off, none⟩) 5 c] W fun e w' => e = .returned (.int .i64 (be [x0, x1, x2, x3] : Nat)) ∧ ∃ n, w' = W.drewN n) := fun W h => gget_any _ x0 x1 x2 x3 [x4] W h
  clear hrl hx hcc hb0
  go_enter Tryd.func61, Tryd.ntmps61
  go_wp2_with fail
  refine (HK.out _).mono ?_
  rintro e w2 ⟨rfl, rfl⟩
  go_wp2_with fail
  refine (HD.out _).mono ?_
  rintro e w3 ⟨A3, c3, rfl, hO⟩
  have P3 := hid (P0.out.step ⟨hO.2.1.os, hO.2.1.tape, hO.2.1.output, hO.2.1.size, hO.2.1.block⟩)
  clear hO
  obtain ⟨u0, u1⟩ := P3.out.ucells
  obtain ⟨t0, t1, t2, t3, t4⟩ := P3.out.tcells
  obtain ⟨f0, f1, f2, f3, f4⟩ := P3.out.tfr
  have X3 := hid (X.out.1.below P3.out.bel)
  have c4 : w3.cell? ⟨b, off + 4, none⟩ = some (.int .u8 x4.toNat) := Byt.cell (bs := [x0, x1, x2, x3, x4]) X3.out 4 x4 rfl
  have l4 := x4.toNat_lt
  generalize be [x0, x1, x2, x3] = N at *
  go_wp2_with fail
  go_region_held3 (fun W => W.cell? ⟨b, off + 4, none⟩ = some (.int .u8 x4.toNat))
    (first
      | exact E4.out
      | exact far_cell E4.out X.out.2 _ _
      | exact far_cell (far_cell E4.out X.out.2 _ _) X.out.2 _ _
      | exact c4)
    (first
      | (go_at_call 93
         refine (HG.out _ (by first | exact X3.out | exact X3.out.drew)).mono ?_
         rintro e w4 ⟨rfl, hw4⟩
         have hb4 : Below w3.heap.size w3 w4 := by
           obtain ⟨n4, rfl⟩ := hw4
           first | exact bel_drewN _ _ | exact ⟨rfl, rfl, rfl, Nat.le_refl _, fun _ _ => rfl⟩
         have P4 := hid (P3.out.step hb4)
         have E4 := hid (cell_keep hb4 c4)
         obtain ⟨g0, g1, g2, g3, g4⟩ := P4.out.tcells
         obtain ⟨y0, y1, y2, y3, y4⟩ := P4.out.tfr
         clear hw4 hb4)
      | fail)
  all_goals
    go_wp2_with fail
    have P5 := hid ((P4.out.put 1 (.int .i64 N)).put 2 (.int .i64 x4.toNat))
    refine (HM.out _).mono ?_
    rintro e w9 ⟨rfl, hb⟩
    have P9 := hid (PS.step P5.out hb)
    clear hb
    obtain ⟨r0, r1, r2, r3, r4⟩ := P9.out.rcells
    obtain ⟨f0, f1, f2, f3, f4⟩ := P9.out.rfr
    obtain ⟨t0, t1, t2, t3, t4⟩ := P9.out.tcells
    cases m
    · have hq := HQ.out
      rw [if_neg (by simp)] at hq
      subst hq
      go_wp2_with fail
      obtain ⟨h0, h1, h2, h3, h4, h5⟩ := P9.out.lay (.int .i64 0) (.int .i64 0) (.int .i64 0) (.int .i64 0) (.int .i64 0)
      unfold lay5 at *
      exact bodyPost_ret (v := .tuple #[recZ.val, codeV 2]) (by simp [results, Tryd.results61, go_sem, recZ, RecS.val, codeV, h1, h2, h3, h4, h5]) rfl ⟨rfl, h0⟩
    · have hq := HQ.out
      rw [if_pos rfl] at hq
      subst hq
      go_wp2_with fail
      obtain ⟨h0, h1, h2, h3, h4, h5⟩ := P9.out.lay (.int .i64 (48)) (.int .i64 (N)) (.int .i64 (x4.toNat)) (.int .i64 (0)) (.int .i64 (0))
      unfold lay5 at *
      exact bodyPost_ret (v := .tuple #[.agg #[.int .i64 48, .int .i64 N, .int .i64 x4.toNat, .int .i64 0, .int .i64 0], .nilIface]) (by simp [results, Tryd.results61, go_sem, h1, h2, h3, h4, h5]) rfl ⟨rfl, h0⟩
set_option maxRecDepth 100000 in
set_option maxHeartbeats 2000000 in
theorem gparse_end (x0 x1 x2 x3 x4 x5 x6 x7 : UInt8) (a z : Int) (dv : Value) (w : World) (hx : Byt w dv [x0, x1, x2, x3, x4, x5, x6, x7]) : Calls Tryd.prog 61 #[.agg #[.int .i64 51, dv, .int .i64 a, .int .i64 z]] w (ParseRes (if mayR ⟨51, (be [x4, x5, x6, x7] : Nat), 0, (be [x0, x1, x2, x3] : Nat), 0⟩ then (0, ⟨51, (be [x4, x5, x6, x7] : Nat), 0, (be [x0, x1, x2, x3] : Nat), 0⟩) else (2, recZ)) w) := by
  have HK : Hid (∀ W, Calls Tryd.prog 85 #[.int .i64 51] W fun e w' => e = .returned (.bool true) ∧ W = w') := fun W => (gkind_any 51 W).mono fun _ _ h' => ⟨by rw [h'.1]; rfl, h'.2⟩
  have HD := hid (fun W => gdata_any 51 0 0 0 0 W (by omega) (by omega) (by omega))
  unfold DataRes recV at HD
  have hrl : (recData ((51 : Nat) : Int) 0 0 0 0).length = 8 := rfl
  rw [hrl] at HD
  have HM : Hid (∀ W, Calls Tryd.prog 49 #[.agg #[.int .i64 51, .int .i64 (be [x4, x5, x6, x7] : Nat), .int .i64 0, .int .i64 (be [x0, x1, x2, x3] : Nat), .int .i64 0]] W fun e w' => e = .returned (.bool (mayR ⟨51, (be [x4, x5, x6, x7] : Nat), 0, (be [x0, x1, x2, x3] : Nat), 0⟩)) ∧ Below W.heap.size W w') := fun W => gmay_any ⟨51, (be [x4, x5, x6, x7] : Nat), 0, (be [x0, x1, x2, x3] : Nat), 0⟩ W
  generalize mayR ⟨51, (be [x4, x5, x6, x7] : Nat), 0, (be [x0, x1, x2, x3] : Nat), 0⟩ = m at *
  obtain ⟨q, hq⟩ : ∃ q, q = (if m = true then ((0 : Int), (⟨51, (be [x4, x5, x6, x7] : Nat), 0, (be [x0, x1, x2, x3] : Nat), 0⟩ : RecS)) else (2, recZ)) := ⟨_, rfl⟩
  rw [← hq]
  have HQ := hid hq
  clear hq
  obtain ⟨A, c, hdv, hcc⟩ := hx.form
  have hdv' : dv = .slice A 8 c := hdv
  subst hdv'
  clear hdv
  obtain ⟨b, off, uu, rfl, hb0, _, _⟩ := Byt.at_ (bs := [x0, x1, x2, x3, x4, x5, x6, x7]) hx (j := 0) (by simp)
  have hcn : 8 ≤ c := hcc
  have P0 := hid (PS.new w 51 (.slice (some ⟨b, off, none⟩) 8 c) a z #[.int .i64 51, .int .i64 0, .int .i64 0, .int .i64 0, .int .i64 0])
  have X := hid (And.intro hx hb0)
  clear hrl hx hcc hb0
  go_enter Tryd.func61, Tryd.ntmps61
  go_wp2_with fail
  refine (HK.out _).mono ?_
  rintro e w2 ⟨rfl, rfl⟩
  go_wp2_with fail
  refine (HD.out _).mono ?_
  rintro e w3 ⟨A3, c3, rfl, hO⟩
  have P3 := hid (P0.out.step ⟨hO.2.1.os, hO.2.1.tape, hO.2.1.output, hO.2.1.size, hO.2.1.block⟩)
  clear hO
  obtain ⟨u0, u1⟩ := P3.out.ucells
  obtain ⟨t0, t1, t2, t3, t4⟩ := P3.out.tcells
  obtain ⟨f0, f1, f2, f3, f4⟩ := P3.out.tfr
  have X3 := hid (X.out.1.below P3.out.bel)
  have hsl : ∀ W2 : World, (Instr.sliceAt 23 (.slice (some ⟨b, off, none⟩) 8 c) (some (.int .i64 4)) none none).run Tryd.prog W2 = .ok (.slice (some ⟨b, off + 4, none⟩) 4 (c - 4)) W2 := by
    intro W2
    have hc4 : ¬ (c = 4) := by omega
    have hc5 : ¬ (c < 4) := by omega
    have hc6 : ¬ (c < 8) := by omega
    go_simp
  have HG1 : Hid (∀ W, Byt W (.slice (some ⟨b, off, none⟩) 8 c) [x0, x1, x2, x3, x4, x5, x6, x7] → Calls Tryd.prog 93 #[.slice (some ⟨b, off, none⟩) 8 c] W fun e w' => e = .returned (.int .i64 (be [x0, x1, x2, x3] : Nat)) ∧ ∃ n, w' = W.drewN n) := fun W h => gget_any _ x0 x1 x2 x3 [x4, x5, x6, x7] W h
  have HG2 : Hid (∀ W, Byt W (.slice (some ⟨b, off + 4, none⟩) 4 (c - 4)) [x4, x5, x6, x7] → Calls Tryd.prog 93 #[.slice (some ⟨b, off + 4, none⟩) 4 (c - 4)] W fun e w' => e = .returned (.int .i64 (be [x4, x5, x6, x7] : Nat)) ∧ ∃ n, w' = W.drewN n) := fun W h => gget_any _ x4 x5 x6 x7 [] W h
  generalize be [x0, x1, x2, x3] = N1 at *
  generalize be [x4, x5, x6, x7] = N2 at *
  go_wp2_with fail
  go_region_held3 (fun _ => True)
    (exact trivial)
    (first
      | (go_at_call 93
         refine (HG2.out w4 (by exact V4.out)).mono ?_
         rintro e w5 ⟨rfl, hw5⟩
         have hb5 : Below w4.heap.size w4 w5 := by
           obtain ⟨n5, rfl⟩ := hw5
           first | exact bel_drewN _ _ | exact ⟨rfl, rfl, rfl, Nat.le_refl _, fun _ _ => rfl⟩
         have P5 := hid (P4.out.step hb5)
         obtain ⟨g0, g1, g2, g3, g4⟩ := P5.out.tcells
         obtain ⟨y0, y1, y2, y3, y4⟩ := P5.out.tfr
         clear hw5 hb5)
      | (go_at_call 93
         refine (HG1.out _ (by first | exact X3.out | exact X3.out.drew)).mono ?_
         rintro e w4 ⟨rfl, hw4⟩
         have hb4 : Below w3.heap.size w3 w4 := by
           obtain ⟨n4, rfl⟩ := hw4
           first | exact bel_drewN _ _ | exact ⟨rfl, rfl, rfl, Nat.le_refl _, fun _ _ => rfl⟩
         have P4 := hid (PS.step P3.out hb4)
         have V4 := hid (show Byt w4 (.slice (some ⟨b, off + 4, none⟩) 4 (c - 4)) [x4, x5, x6, x7] from Byt.below (Byt.dropAt (bs := [x0, x1, x2, x3, x4, x5, x6, x7]) (k := 4) X3.out (by simp)) hb4)
         clear hw4 hb4)
      | fail)
  all_goals
    go_wp2_with fail
    have P6 := hid ((P5.out.put 3 (.int .i64 N1)).put 1 (.int .i64 N2))
    refine (HM.out _).mono ?_
    rintro e w9 ⟨rfl, hb⟩
    have P9 := hid (PS.step P6.out hb)
    clear hb
    obtain ⟨r0, r1, r2, r3, r4⟩ := P9.out.rcells
    obtain ⟨f0, f1, f2, f3, f4⟩ := P9.out.rfr
    obtain ⟨t0, t1, t2, t3, t4⟩ := P9.out.tcells
    cases m
    · have hq := HQ.out
      rw [if_neg (by simp)] at hq
      subst hq
      go_wp2_with fail
      obtain ⟨h0, h1, h2, h3, h4, h5⟩ := P9.out.lay (.int .i64 0) (.int .i64 0) (.int .i64 0) (.int .i64 0) (.int .i64 0)
      unfold lay5 at *
      exact bodyPost_ret (v := .tuple #[recZ.val, codeV 2]) (by simp [results, Tryd.results61, go_sem, recZ, RecS.val, codeV, h1, h2, h3, h4, h5]) rfl ⟨rfl, h0⟩
    · have hq := HQ.out
      rw [if_pos rfl] at hq
      subst hq
      go_wp2_with fail
      obtain ⟨h0, h1, h2, h3, h4, h5⟩ := P9.out.lay (.int .i64 (51)) (.int .i64 (N2)) (.int .i64 (0)) (.int .i64 (N1)) (.int .i64 (0))
      unfold lay5 at *
      exact bodyPost_ret (v := .tuple #[.agg #[.int .i64 51, .int .i64 N2, .int .i64 0, .int .i64 N1, .int .i64 0], .nilIface]) (by simp [results, Tryd.results61, go_sem, h1, h2, h3, h4, h5]) rfl ⟨rfl, h0⟩
end Go.Proofs.YtabklmkdneoaaaaDoor
/- log.Parse: the walk of a chunk's record; all kinds. -/
namespace Go.Proofs.YtabklmkdneoaaaaDoor
open Go.RowKit

set_option maxRecDepth 100000 in
set_option maxHeartbeats 2000000 in
theorem gparse_done (x8 x0 x1 x2 x3 x4 x5 x6 x7 : UInt8) (a z : Int) (dv : Value) (w : World) (hx : Byt w dv [x8, x0, x1, x2, x3, x4, x5, x6, x7]) : Calls Tryd.prog 61 #[.agg #[.int .i64 49, dv, .int .i64 a, .int .i64 z]] w (ParseRes (if mayR ⟨49, (be [x4, x5, x6, x7] : Nat), x8.toNat, (be [x0, x1, x2, x3] : Nat), 0⟩ then (0, ⟨49, (be [x4, x5, x6, x7] : Nat), x8.toNat, (be [x0, x1, x2, x3] : Nat), 0⟩) else (2, recZ)) w) := by
  have HK : Hid (∀ W, Calls Tryd.prog 85 #[.int .i64 49] W fun e w' => e = .returned (.bool true) ∧ W = w') := fun W => (gkind_any 49 W).mono fun _ _ h' => ⟨by rw [h'.1]; rfl, h'.2⟩
  have HD := hid (fun W => gdata_any 49 0 0 0 0 W (by omega) (by omega) (by omega))
  unfold DataRes recV at HD
  have hrl : (recData ((49 : Nat) : Int) 0 0 0 0).length = 9 := rfl
  rw [hrl] at HD
  have HM : Hid (∀ W, Calls Tryd.prog 49 #[.agg #[.int .i64 49, .int .i64 (be [x4, x5, x6, x7] : Nat), .int .i64 x8.toNat, .int .i64 (be [x0, x1, x2, x3] : Nat), .int .i64 0]] W fun e w' => e = .returned (.bool (mayR ⟨49, (be [x4, x5, x6, x7] : Nat), x8.toNat, (be [x0, x1, x2, x3] : Nat), 0⟩)) ∧ Below W.heap.size W w') := fun W => gmay_any ⟨49, (be [x4, x5, x6, x7] : Nat), x8.toNat, (be [x0, x1, x2, x3] : Nat), 0⟩ W
  generalize mayR ⟨49, (be [x4, x5, x6, x7] : Nat), x8.toNat, (be [x0, x1, x2, x3] : Nat), 0⟩ = m at *
  obtain ⟨q, hq⟩ : ∃ q, q = (if m = true then ((0 : Int), (⟨49, (be [x4, x5, x6, x7] : Nat), x8.toNat, (be [x0, x1, x2, x3] : Nat), 0⟩ : RecS)) else (2, recZ)) := ⟨_, rfl⟩
  rw [← hq]
  have HQ := hid hq
  clear hq
  obtain ⟨A, c, hdv, hcc⟩ := hx.form
  have hdv' : dv = .slice A 9 c := hdv
  subst hdv'
  clear hdv
  obtain ⟨b, off, uu, rfl, hb0, _, _⟩ := Byt.at_ (bs := [x8, x0, x1, x2, x3, x4, x5, x6, x7]) hx (j := 0) (by simp)
  have hcn : 9 ≤ c := hcc
  have P0 := hid (PS.new w 49 (.slice (some ⟨b, off, none⟩) 9 c) a z #[.int .i64 49, .int .i64 0, .int .i64 0, .int .i64 0, .int .i64 0])
  have X := hid (And.intro hx hb0)
  clear hrl hx hcc hb0
  go_enter Tryd.func61, Tryd.ntmps61
  go_wp2_with fail
  refine (HK.out _).mono ?_
  rintro e w2 ⟨rfl, rfl⟩
  go_wp2_with fail
  refine (HD.out _).mono ?_
  rintro e w3 ⟨A3, c3, rfl, hO⟩
  have P3 := hid (P0.out.step ⟨hO.2.1.os, hO.2.1.tape, hO.2.1.output, hO.2.1.size, hO.2.1.block⟩)
  clear hO
  obtain ⟨u0, u1⟩ := P3.out.ucells
  obtain ⟨t0, t1, t2, t3, t4⟩ := P3.out.tcells
  obtain ⟨f0, f1, f2, f3, f4⟩ := P3.out.tfr
  have X3 := hid (X.out.1.below P3.out.bel)
  have c0 : w3.cell? ⟨b, off, none⟩ = some (.int .u8 x8.toNat) := Byt.cell (bs := [x8, x0, x1, x2, x3, x4, x5, x6, x7]) X3.out 0 x8 rfl
  have XD := hid (show Byt w3 (.slice (some ⟨b, off + 1, none⟩) 8 (c - 1)) [x0, x1, x2, x3, x4, x5, x6, x7] from Byt.dropAt (bs := [x8, x0, x1, x2, x3, x4, x5, x6, x7]) (k := 1) X3.out (by simp))
  have l8 := x8.toNat_lt
  have hw8 : IntKind.i64.wrap (x8.toNat : Int) = (x8.toNat : Int) := IntWalk.i64_in _ (by omega)
  have hsl1 : ∀ W2 : World, (Instr.sliceAt 23 (.slice (some ⟨b, off, none⟩) 9 c) (some (.int .i64 1)) none none).run Tryd.prog W2 = .ok (.slice (some ⟨b, off + 1, none⟩) 8 (c - 1)) W2 := by
    intro W2
    have hc4 : ¬ (c = 1) := by omega
    have hc5 : ¬ (c < 1) := by omega
    have hc6 : ¬ (c < 9) := by omega
    go_simp
  have hsl : ∀ W2 : World, (Instr.sliceAt 23 (.slice (some ⟨b, off + 1, none⟩) 8 (c - 1)) (some (.int .i64 4)) none none).run Tryd.prog W2 = .ok (.slice (some ⟨b, off + 1 + 4, none⟩) 4 (c - 1 - 4)) W2 := by
    intro W2
    have hc4 : ¬ (c - 1 = 4) := by omega
    have hc5 : ¬ (c - 1 < 4) := by omega
    have hc6 : ¬ (c - 1 < 8) := by omega
    go_simp
  have HG1 : Hid (∀ W, Byt W (.slice (some ⟨b, off + 1, none⟩) 8 (c - 1)) [x0, x1, x2, x3, x4, x5, x6, x7] → Calls Tryd.prog 93 #[.slice (some ⟨b, off + 1, none⟩) 8 (c - 1)] W fun e w' => e = .returned (.int .i64 (be [x0, x1, x2, x3] : Nat)) ∧ ∃ n, w' = W.drewN n) := fun W h => gget_any _ x0 x1 x2 x3 [x4, x5, x6, x7] W h
  have HG2 : Hid (∀ W, Byt W (.slice (some ⟨b, off + 1 + 4, none⟩) 4 ((c - 1) - 4)) [x4, x5, x6, x7] → Calls Tryd.prog 93 #[.slice (some ⟨b, off + 1 + 4, none⟩) 4 ((c - 1) - 4)] W fun e w' => e = .returned (.int .i64 (be [x4, x5, x6, x7] : Nat)) ∧ ∃ n, w' = W.drewN n) := fun W h => gget_any _ x4 x5 x6 x7 [] W h
  generalize be [x0, x1, x2, x3] = N1 at *
  generalize be [x4, x5, x6, x7] = N2 at *
  go_wp2_with fail
  go_region_held3 (fun W => W.cell? ⟨b, off, none⟩ = some (.int .u8 x8.toNat))
    (first
      | exact c0
      | exact far_cell c0 X.out.2 _ _)
    (first
      | fail)
  all_goals
    have P6 := hid (show PS w 49 (.slice (some ⟨b, off, none⟩) 9 c) a z #[.int .i64 49, .int .i64 0, .int .i64 x8.toNat, .int .i64 0, .int .i64 0] (w3.setCell ⟨w.heap.size + 2, 2, none⟩ (.int .i64 x8.toNat)).drew from (fun h : PS w 49 (.slice (some ⟨b, off, none⟩) 9 c) a z #[.int .i64 49, .int .i64 0, .int .i64 x8.toNat, .int .i64 0, .int .i64 0] (w3.setCell ⟨w.heap.size + 2, 2, none⟩ (.int .i64 x8.toNat)) => (⟨h.u, h.r, h.t, ⟨h.bel.os, h.bel.tape, h.bel.output, h.bel.size, h.bel.block⟩, h.size⟩ : PS _ _ _ _ _ _ (w3.setCell ⟨w.heap.size + 2, 2, none⟩ (.int .i64 x8.toNat)).drew)) (P3.out.put 2 (.int .i64 x8.toNat)))
    clear c0 t0 t1 t2 t3 t4 f0 f1 f2 f3 f4 hsl1 u0 u1 XD
    go_wp2_with fail
    generalize (w3.setCell ⟨w.heap.size + 1 + 1, 2, none⟩ (.int .i64 x8.toNat)).drew = w6 at *
    have X6 := hid (show Byt w6 (.slice (some ⟨b, off + 1, none⟩) 8 (c - 1)) [x0, x1, x2, x3, x4, x5, x6, x7] from Byt.dropAt (bs := [x8, x0, x1, x2, x3, x4, x5, x6, x7]) (k := 1) (X.out.1.below P6.out.bel) (by simp))
    go_region_held3 (fun _ => True)
      (exact trivial)
      (first
        | (go_at_call 93
           refine (HG2.out w4 (by exact V4.out)).mono ?_
           rintro e w5 ⟨rfl, hw5⟩
           have hb5 : Below w4.heap.size w4 w5 := by
             obtain ⟨n5, rfl⟩ := hw5
             first | exact bel_drewN _ _ | exact ⟨rfl, rfl, rfl, Nat.le_refl _, fun _ _ => rfl⟩
           have P5 := hid (P4.out.step hb5)
           obtain ⟨g0, g1, g2, g3, g4⟩ := P5.out.tcells
           obtain ⟨y0, y1, y2, y3, y4⟩ := P5.out.tfr
           clear hw5 hb5)
        | (go_at_call 93
           refine (HG1.out _ (by first | exact X6.out | exact X6.out.drew)).mono ?_
           rintro e w4 ⟨rfl, hw4⟩
           have hb4 : Below w6.heap.size w6 w4 := by
             obtain ⟨n4, rfl⟩ := hw4
             first | exact bel_drewN _ _ | exact ⟨rfl, rfl, rfl, Nat.le_refl _, fun _ _ => rfl⟩
           have P4 := hid (PS.step P6.out hb4)
           have V4 := hid (show Byt w4 (.slice (some ⟨b, off + 1 + 4, none⟩) 4 ((c - 1) - 4)) [x4, x5, x6, x7] from Byt.below (Byt.dropAt (bs := [x0, x1, x2, x3, x4, x5, x6, x7]) (k := 4) X6.out (by simp)) hb4)
           clear hw4 hb4)
        | fail)
    all_goals
      go_wp2_with fail
      have P7 := hid ((P5.out.put 3 (.int .i64 N1)).put 1 (.int .i64 N2))
      refine (HM.out _).mono ?_
      rintro e w9 ⟨rfl, hb⟩
      have P9 := hid (PS.step P7.out hb)
      clear hb
      obtain ⟨r0, r1, r2, r3, r4⟩ := P9.out.rcells
      obtain ⟨f0, f1, f2, f3, f4⟩ := P9.out.rfr
      obtain ⟨t0, t1, t2, t3, t4⟩ := P9.out.tcells
      cases m
      · have hq := HQ.out
        rw [if_neg (by simp)] at hq
        subst hq
        go_wp2_with fail
        obtain ⟨h0, h1, h2, h3, h4, h5⟩ := P9.out.lay (.int .i64 0) (.int .i64 0) (.int .i64 0) (.int .i64 0) (.int .i64 0)
        unfold lay5 at *
        exact bodyPost_ret (v := .tuple #[recZ.val, codeV 2]) (by simp [results, Tryd.results61, go_sem, recZ, RecS.val, codeV, h1, h2, h3, h4, h5]) rfl ⟨rfl, h0⟩
      · have hq := HQ.out
        rw [if_pos rfl] at hq
        subst hq
        go_wp2_with fail
        obtain ⟨h0, h1, h2, h3, h4, h5⟩ := P9.out.lay (.int .i64 (49)) (.int .i64 (N2)) (.int .i64 (x8.toNat)) (.int .i64 (N1)) (.int .i64 (0))
        unfold lay5 at *
        exact bodyPost_ret (v := .tuple #[.agg #[.int .i64 49, .int .i64 N2, .int .i64 x8.toNat, .int .i64 N1, .int .i64 0], .nilIface]) (by simp [results, Tryd.results61, go_sem, h1, h2, h3, h4, h5]) rfl ⟨rfl, h0⟩
theorem gparse_any (k a z : Int) (dv : Value) (d : List UInt8) (w : World) (hx : Byt w dv d) : Calls Tryd.prog 61 #[.agg #[.int .i64 k, dv, .int .i64 a, .int .i64 z]] w (ParseRes (parseR k d) w) := by
  cases hb : kindB k
  · have e : parseR k d = (13, recZ) := by unfold parseR; rw [if_pos hb]
    rw [e]
    exact gparse_kind k a z dv w hb
  · have hk : k = 48 ∨ k = 49 ∨ k = 50 ∨ k = 51 := by unfold kindB at hb; simp at hb; omega
    obtain ⟨kn, rfl⟩ : ∃ kn : Nat, k = kn := ⟨k.toNat, by omega⟩
    have hk' : kn = 48 ∨ kn = 49 ∨ kn = 50 ∨ kn = 51 := by omega
    have e : parseR kn d = match parseRec kn d with
      | none => (2, recZ)
      | some r => if mayR r then (0, r) else (2, recZ) := by
      unfold parseR
      rw [if_neg (by rw [hb]; simp)]
      all_goals (cases parseRec (kn : Int) d <;> rfl)
    by_cases hl : d.length = recLen kn
    · rw [e]
      rcases hk' with rfl | rfl | rfl | rfl
      · obtain ⟨a0, b0, c0, e0, n0, rfl⟩ := len5 hl
        exact gparse_start a0 b0 c0 e0 n0 a z dv w hx
      · obtain ⟨n0, a0, b0, c0, e0, f0, g0, i0, j0, rfl⟩ := len9 hl
        exact gparse_done n0 a0 b0 c0 e0 f0 g0 i0 j0 a z dv w hx
      · obtain ⟨a0, rfl⟩ := len1 hl
        exact gparse_fail a0 a z dv w hx
      · obtain ⟨a0, b0, c0, e0, f0, g0, i0, j0, rfl⟩ := len8 hl
        exact gparse_end a0 b0 c0 e0 f0 g0 i0 j0 a z dv w hx
    · rw [e, parseRec_none hk' hl]
      obtain ⟨A, c, rfl, _⟩ := hx.form
      exact gparse_form kn a z A d.length c w hk' hl
end Go.Proofs.YtabklmkdneoaaaaDoor
/- kinref26.Parse: the walk. -/
namespace Go.Proofs.YtabklmkdneoaaaaDoor
open Go.RowKit

def RParseRes (p : Int × RecS) (w : World) (e : Ending) (w' : World) : Prop := e = .returned (.tuple #[p.2.val, .agg #[.int .i64 p.1, .slice none 0 0]]) ∧ Below w.heap.size w w'
/-- The unit's block, the answer's two, the record's. -/
structure QS (w : World) (k : Int) (dv : Value) (a z : Int) (tc : Array Value) (W : World) : Prop where
  u : Blk W w.heap.size 35 #[.int .i64 k, dv, .int .i64 a, .int .i64 z]
  r : Blk W (w.heap.size + 1) 71 #[.int .i64 0, .int .i64 0, .int .i64 0, .int .i64 0, .int .i64 0]
  e : Blk W (w.heap.size + 2) 32 #[.int .i64 0, .slice none 0 0]
  t : Blk W (w.heap.size + 3) 71 tc
  bel : Below w.heap.size w W
  size : w.heap.size + 4 ≤ W.heap.size
section
variable {w W W' : World} {k a z : Int} {dv : Value} {tc : Array Value}
theorem QS.new (w : World) (k : Int) (dv : Value) (a z : Int) (tc : Array Value) : QS w k dv a z tc ((((w.alloc (.cells #[.int .i64 k, dv, .int .i64 a, .int .i64 z] 35)).alloc (.cells #[.int .i64 0, .int .i64 0, .int .i64 0, .int .i64 0, .int .i64 0] 71)).alloc (.cells #[.int .i64 0, .slice none 0 0] 32)).alloc (.cells tc 71)) :=
  ⟨(((Blk.new _ _ _).alloc _).alloc _).alloc _, ((blk_new_at (by simp) _ _).alloc _).alloc _, (blk_new_at (by simp) _ _).alloc _, blk_new_at (by simp) _ _, ((((Below.refl _ _).alloc (Nat.le_refl _) _).alloc (by simp) _).alloc (by simp; omega) _).alloc (by simp; omega) _, by simp⟩
theorem QS.step (h : QS w k dv a z tc W) (hb : Below W.heap.size W W') : QS w k dv a z tc W' :=
  ⟨h.u.below hb h.u.lt, h.r.below hb h.r.lt, h.e.below hb h.e.lt, h.t.below hb h.t.lt, h.bel.trans (hb.mono h.bel.size), Nat.le_trans h.size hb.size⟩
theorem QS.drew (h : QS w k dv a z tc W) : QS w k dv a z tc W.drew := ⟨h.u, h.r, h.e, h.t, ⟨h.bel.os, h.bel.tape, h.bel.output, h.bel.size, h.bel.block⟩, h.size⟩
theorem QS.put (h : QS w k dv a z tc W) (i : Nat) (v : Value) : QS w k dv a z (tc.setIfInBounds i v) (W.setCell ⟨w.heap.size + 3, i, none⟩ v) :=
  ⟨h.u.far (by show w.heap.size ≠ w.heap.size + 3; omega) _, h.r.far (by show w.heap.size + 1 ≠ w.heap.size + 3; omega) _, h.e.far (by show w.heap.size + 2 ≠ w.heap.size + 3; omega) _, h.t.put i v, ⟨h.bel.os, h.bel.tape, h.bel.output, by simpa [World.setCell] using h.bel.size, fun q hq => (Below.heap_setCell W ⟨w.heap.size + 3, i, none⟩ v q (by show q ≠ w.heap.size + 3; omega)).trans (h.bel.block q hq)⟩, by simpa [World.setCell] using h.size⟩
theorem QS.ucells (h : QS w k dv a z tc W) : W.cell? ⟨w.heap.size, 0, none⟩ = some (.int .i64 k) ∧ W.cell? ⟨w.heap.size, 1, none⟩ = some dv := by
  refine ⟨?_, ?_⟩ <;> (rw [h.u.cell]; rfl)
theorem QS.rcells (h : QS w k dv a z tc W) : W.cell? ⟨w.heap.size + 1, 0, none⟩ = some (.int .i64 0) ∧ W.cell? ⟨w.heap.size + 1, 1, none⟩ = some (.int .i64 0) ∧ W.cell? ⟨w.heap.size + 1, 2, none⟩ = some (.int .i64 0) ∧ W.cell? ⟨w.heap.size + 1, 3, none⟩ = some (.int .i64 0) ∧ W.cell? ⟨w.heap.size + 1, 4, none⟩ = some (.int .i64 0) ∧ W.cell? ⟨w.heap.size + 2, 0, none⟩ = some (.int .i64 0) ∧ W.cell? ⟨w.heap.size + 2, 1, none⟩ = some (.slice none 0 0) := by
  refine ⟨?_, ?_, ?_, ?_, ?_, ?_, ?_⟩ <;> first | (rw [h.r.cell]; rfl) | (rw [h.e.cell]; rfl)
theorem QS.rfr (h : QS w k dv a z tc W) : W.frozen? ⟨w.heap.size + 1, 0, none⟩ = false ∧ W.frozen? ⟨w.heap.size + 1, 1, none⟩ = false ∧ W.frozen? ⟨w.heap.size + 1, 2, none⟩ = false ∧ W.frozen? ⟨w.heap.size + 1, 3, none⟩ = false ∧ W.frozen? ⟨w.heap.size + 1, 4, none⟩ = false ∧ W.frozen? ⟨w.heap.size + 2, 0, none⟩ = false ∧ W.frozen? ⟨w.heap.size + 2, 1, none⟩ = false := ⟨h.r.frozen 0, h.r.frozen 1, h.r.frozen 2, h.r.frozen 3, h.r.frozen 4, h.e.frozen 0, h.e.frozen 1⟩
theorem QS.tfr (h : QS w k dv a z tc W) : W.frozen? ⟨w.heap.size + 3, 0, none⟩ = false ∧ W.frozen? ⟨w.heap.size + 3, 1, none⟩ = false ∧ W.frozen? ⟨w.heap.size + 3, 2, none⟩ = false ∧ W.frozen? ⟨w.heap.size + 3, 3, none⟩ = false ∧ W.frozen? ⟨w.heap.size + 3, 4, none⟩ = false := ⟨h.t.frozen 0, h.t.frozen 1, h.t.frozen 2, h.t.frozen 3, h.t.frozen 4⟩
theorem QS.tcells {t0 t1 t2 t3 t4 : Value} (h : QS w k dv a z #[t0, t1, t2, t3, t4] W) : W.cell? ⟨w.heap.size + 3, 0, none⟩ = some t0 ∧ W.cell? ⟨w.heap.size + 3, 1, none⟩ = some t1 ∧ W.cell? ⟨w.heap.size + 3, 2, none⟩ = some t2 ∧ W.cell? ⟨w.heap.size + 3, 3, none⟩ = some t3 ∧ W.cell? ⟨w.heap.size + 3, 4, none⟩ = some t4 := by
  refine ⟨?_, ?_, ?_, ?_, ?_⟩ <;> (rw [h.t.cell]; rfl)
/-- The answer laid: seven stores. -/
def lay7 (w W : World) (a0 a1 a2 a3 a4 b0 b1 : Value) : World := ((((((W.setCell ⟨w.heap.size + 1, 0, none⟩ a0).setCell ⟨w.heap.size + 1, 1, none⟩ a1).setCell ⟨w.heap.size + 1, 2, none⟩ a2).setCell ⟨w.heap.size + 1, 3, none⟩ a3).setCell ⟨w.heap.size + 1, 4, none⟩ a4).setCell ⟨w.heap.size + 2, 0, none⟩ b0).setCell ⟨w.heap.size + 2, 1, none⟩ b1
theorem QS.lay (h : QS w k dv a z tc W) (a0 a1 a2 a3 a4 b0 b1 : Value) : Below w.heap.size w (lay7 w W a0 a1 a2 a3 a4 b0 b1) ∧ (lay7 w W a0 a1 a2 a3 a4 b0 b1).cell? ⟨w.heap.size + 1, 0, none⟩ = some a0 ∧ (lay7 w W a0 a1 a2 a3 a4 b0 b1).cell? ⟨w.heap.size + 1, 1, none⟩ = some a1 ∧ (lay7 w W a0 a1 a2 a3 a4 b0 b1).cell? ⟨w.heap.size + 1, 2, none⟩ = some a2 ∧ (lay7 w W a0 a1 a2 a3 a4 b0 b1).cell? ⟨w.heap.size + 1, 3, none⟩ = some a3 ∧ (lay7 w W a0 a1 a2 a3 a4 b0 b1).cell? ⟨w.heap.size + 1, 4, none⟩ = some a4 ∧ (lay7 w W a0 a1 a2 a3 a4 b0 b1).cell? ⟨w.heap.size + 2, 0, none⟩ = some b0 ∧ (lay7 w W a0 a1 a2 a3 a4 b0 b1).cell? ⟨w.heap.size + 2, 1, none⟩ = some b1 := by
  have hO : Only (fun k => k = w.heap.size + 1 ∨ k = w.heap.size + 2) W (lay7 w W a0 a1 a2 a3 a4 b0 b1) := (((((((Only.refl (fun k => k = w.heap.size + 1 ∨ k = w.heap.size + 2) W).put (b := w.heap.size + 1) (.inl rfl) 0 _).put (b := w.heap.size + 1) (.inl rfl) 1 _).put (b := w.heap.size + 1) (.inl rfl) 2 _).put (b := w.heap.size + 1) (.inl rfl) 3 _).put (b := w.heap.size + 1) (.inl rfl) 4 _).put (b := w.heap.size + 2) (.inr rfl) 0 _).put (b := w.heap.size + 2) (.inr rfl) 1 _
  have hk : Blk (lay7 w W a0 a1 a2 a3 a4 b0 b1) (w.heap.size + 1) 71 #[a0, a1, a2, a3, a4] := ((((((h.r.put 0 a0).put 1 a1).put 2 a2).put 3 a3).put 4 a4).far (p := ⟨w.heap.size + 2, 0, none⟩) (by show w.heap.size + 1 ≠ w.heap.size + 2; omega) b0).far (p := ⟨w.heap.size + 2, 1, none⟩) (by show w.heap.size + 1 ≠ w.heap.size + 2; omega) b1
  have hf : ∀ (W : World) (i : Nat) (v : Value) (cs : Array Value), Blk W (w.heap.size + 2) 32 cs → Blk (W.setCell ⟨w.heap.size + 1, i, none⟩ v) (w.heap.size + 2) 32 cs := fun W i v cs h => h.far (p := ⟨w.heap.size + 1, i, none⟩) (by show w.heap.size + 2 ≠ w.heap.size + 1; omega) v
  have he : Blk (lay7 w W a0 a1 a2 a3 a4 b0 b1) (w.heap.size + 2) 32 #[b0, b1] := ((hf _ _ _ _ (hf _ _ _ _ (hf _ _ _ _ (hf _ _ _ _ (hf _ _ _ _ h.e))))).put 0 b0).put 1 b1
  refine ⟨h.bel.trans ⟨hO.os, hO.tape, hO.output, hO.size, fun k hk => hO.block k (by have := h.bel.size; omega) (by omega)⟩, ?_, ?_, ?_, ?_, ?_, ?_, ?_⟩ <;> first | (rw [hk.cell]; rfl) | (rw [he.cell]; rfl)
theorem far_cell3 {W : World} {b i n : Nat} {v : Value} (h : W.cell? ⟨b, i, none⟩ = some v) (hb : b < n) (j : Nat) (u : Value) : (W.setCell ⟨n + 3, j, none⟩ u).cell? ⟨b, i, none⟩ = some v :=
  (World.cell?_of_block (w := W) (a := ⟨b, i, none⟩) (Below.heap_setCell W ⟨n + 3, j, none⟩ u b (by show b ≠ n + 3; omega))).trans h
end
set_option maxRecDepth 100000 in
set_option maxHeartbeats 1000000 in
theorem rparse_kind (k a z : Int) (dv : Value) (w : World) (h : kindB k = false) : Calls Tryd.prog 62 #[.agg #[.int .i64 k, dv, .int .i64 a, .int .i64 z]] w (RParseRes (13, recZ) w) := by
  have HK : Hid (∀ W, Calls Tryd.prog 91 #[.int .i64 k] W fun e w' => e = .returned (.bool false) ∧ W = w') := fun W => (rkind_any k W).mono fun _ _ h' => ⟨by rw [h'.1, h], h'.2⟩
  have P0 := hid (QS.new w k dv a z #[.int .i64 k, .int .i64 0, .int .i64 0, .int .i64 0, .int .i64 0])
  clear h
  go_enter Tryd.func62, Tryd.ntmps62
  go_wp2_with fail
  refine (HK.out _).mono ?_
  rintro e w2 ⟨rfl, rfl⟩
  go_wp2_with fail
  refine (fail_any 13 _).mono ?_
  rintro e w3 ⟨rfl, hb⟩
  have PF := hid (QS.step P0.out hb)
  clear hb
  obtain ⟨r0, r1, r2, r3, r4, r5, r6⟩ := PF.out.rcells
  obtain ⟨f0, f1, f2, f3, f4, f5, f6⟩ := PF.out.rfr
  go_wp2_with fail
  obtain ⟨h0, h1, h2, h3, h4, h5, h6, h7⟩ := PF.out.lay (.int .i64 0) (.int .i64 0) (.int .i64 0) (.int .i64 0) (.int .i64 0) (.int .i64 13) (.slice none 0 0)
  unfold lay7 at *
  exact bodyPost_ret (v := .tuple #[.agg #[.int .i64 0, .int .i64 0, .int .i64 0, .int .i64 0, .int .i64 0], .agg #[.int .i64 13, .slice none 0 0]]) (by simp [results, Tryd.results62, go_sem, h1, h2, h3, h4, h5, h6, h7]) rfl ⟨rfl, h0⟩
set_option maxRecDepth 100000 in
set_option maxHeartbeats 2000000 in
theorem rparse_form (k : Nat) (a z : Int) (A : Option Addr) (m c : Nat) (w : World) (hk : k = 48 ∨ k = 49 ∨ k = 50 ∨ k = 51) (hm : m ≠ recLen k) : Calls Tryd.prog 62 #[.agg #[.int .i64 k, .slice A m c, .int .i64 a, .int .i64 z]] w (RParseRes (2, recZ) w) := by
  have HK : Hid (∀ W, Calls Tryd.prog 91 #[.int .i64 k] W fun e w' => e = .returned (.bool true) ∧ W = w') := fun W => (rkind_any k W).mono fun _ _ h' => ⟨by rw [h'.1]; rcases hk with rfl | rfl | rfl | rfl <;> rfl, h'.2⟩
  have P0 := hid (QS.new w k (.slice A m c) a z #[.int .i64 k, .int .i64 0, .int .i64 0, .int .i64 0, .int .i64 0])
  have hne : ((m : Int) == (recLen k : Int)) = false := by simp; omega
  rcases hk with rfl | rfl | rfl | rfl
  all_goals
    clear hm
    simp only [recLen] at hne
    simp at hne
    have hne1 : ((m : Int) == 1) = false ∨ ((m : Int) == 5) = false ∨ ((m : Int) == 9) = false ∨ ((m : Int) == 8) = false := by simp; omega
    clear hne1
    go_enter Tryd.func62, Tryd.ntmps62
    go_wp2_with fail
    refine (HK.out _).mono ?_
    rintro e w2 ⟨rfl, rfl⟩
    go_wp2_with fail
    refine (fail_any 2 _).mono ?_
    rintro e w3 ⟨rfl, hb⟩
    have PF := hid (QS.step P0.out hb)
    clear hb
    obtain ⟨r0, r1, r2, r3, r4, r5, r6⟩ := PF.out.rcells
    obtain ⟨f0, f1, f2, f3, f4, f5, f6⟩ := PF.out.rfr
    go_wp2_with fail
    obtain ⟨h0, h1, h2, h3, h4, h5, h6, h7⟩ := PF.out.lay (.int .i64 0) (.int .i64 0) (.int .i64 0) (.int .i64 0) (.int .i64 0) (.int .i64 2) (.slice none 0 0)
    unfold lay7 at *
    exact bodyPost_ret (v := .tuple #[.agg #[.int .i64 0, .int .i64 0, .int .i64 0, .int .i64 0, .int .i64 0], .agg #[.int .i64 2, .slice none 0 0]]) (by simp [results, Tryd.results62, go_sem, h1, h2, h3, h4, h5, h6, h7]) rfl ⟨rfl, h0⟩
set_option maxRecDepth 100000 in
set_option maxHeartbeats 2000000 in
theorem rparse_fail (x0 : UInt8) (a z : Int) (dv : Value) (w : World) (hx : Byt w dv [x0]) : Calls Tryd.prog 62 #[.agg #[.int .i64 50, dv, .int .i64 a, .int .i64 z]] w (RParseRes (if mayR ⟨50, 0, 0, 0, x0.toNat⟩ then (0, ⟨50, 0, 0, 0, x0.toNat⟩) else (2, recZ)) w) := by
  have HK : Hid (∀ W, Calls Tryd.prog 91 #[.int .i64 50] W fun e w' => e = .returned (.bool true) ∧ W = w') := fun W => (rkind_any 50 W).mono fun _ _ h' => ⟨by rw [h'.1]; rfl, h'.2⟩
  have HM : Hid (∀ W, Calls Tryd.prog 63 #[.agg #[.int .i64 50, .int .i64 0, .int .i64 0, .int .i64 0, .int .i64 x0.toNat]] W fun e w' => e = .returned (.bool (mayR ⟨50, 0, 0, 0, x0.toNat⟩)) ∧ Below W.heap.size W w') := fun W => rmay_any ⟨50, 0, 0, 0, x0.toNat⟩ W
  generalize mayR ⟨50, 0, 0, 0, x0.toNat⟩ = m at *
  obtain ⟨q, hq⟩ : ∃ q, q = (if m = true then ((0 : Int), (⟨50, 0, 0, 0, x0.toNat⟩ : RecS)) else (2, recZ)) := ⟨_, rfl⟩
  rw [← hq]
  have HQ := hid hq
  clear hq
  obtain ⟨A, c, hdv, hcc⟩ := hx.form
  have hdv' : dv = .slice A 1 c := hdv
  subst hdv'
  clear hdv
  obtain ⟨b, off, uu, rfl, hb0, _, _⟩ := Byt.at_ (bs := [x0]) hx (j := 0) (by simp)
  have hcn : 1 ≤ c := hcc
  have P0 := hid (QS.new w 50 (.slice (some ⟨b, off, none⟩) 1 c) a z #[.int .i64 50, .int .i64 0, .int .i64 0, .int .i64 0, .int .i64 0])
  have X := hid (And.intro hx hb0)
  clear hx hcc hb0
  go_enter Tryd.func62, Tryd.ntmps62
  go_wp2_with fail
  generalize (((w.alloc (.cells #[.int .i64 50, .slice (some ⟨b, off, none⟩) 1 c, .int .i64 a, .int .i64 z] 35)).alloc (.cells #[.int .i64 0, .int .i64 0, .int .i64 0, .int .i64 0, .int .i64 0] 71)).alloc (.cells #[.int .i64 0, .slice none 0 0] 32)).alloc (.cells #[.int .i64 50, .int .i64 0, .int .i64 0, .int .i64 0, .int .i64 0] 71) = w3 at *
  refine (HK.out _).mono ?_
  rintro e w2 ⟨rfl, rfl⟩
  obtain ⟨u0, u1⟩ := P0.out.ucells
  obtain ⟨t0, t1, t2, t3, t4⟩ := P0.out.tcells
  obtain ⟨f0, f1, f2, f3, f4⟩ := P0.out.tfr
  have X3 := hid (X.out.1.below P0.out.bel)
  have c0 : w3.cell? ⟨b, off, none⟩ = some (.int .u8 x0.toNat) := Byt.cell (bs := [x0]) X3.out 0 x0 rfl
  have l0 := x0.toNat_lt
  go_wp2_with fail
  have P4 := hid (P0.out.put 4 (.int .i64 x0.toNat))
  refine (HM.out _).mono ?_
  rintro e w9 ⟨rfl, hb⟩
  have P9 := hid (QS.step P4.out hb)
  clear hb
  obtain ⟨r0, r1, r2, r3, r4, r5, r6⟩ := P9.out.rcells
  obtain ⟨f0, f1, f2, f3, f4, f5, f6⟩ := P9.out.rfr
  obtain ⟨t0, t1, t2, t3, t4⟩ := P9.out.tcells
  cases m
  · have hq := HQ.out
    rw [if_neg (by simp)] at hq
    subst hq
    go_wp2_with fail
    refine (fail_any 2 _).mono ?_
    rintro e w10 ⟨rfl, hb⟩
    have PF := hid (QS.step P9.out hb)
    clear hb
    obtain ⟨r0, r1, r2, r3, r4, r5, r6⟩ := PF.out.rcells
    obtain ⟨f0, f1, f2, f3, f4, f5, f6⟩ := PF.out.rfr
    go_wp2_with fail
    obtain ⟨h0, h1, h2, h3, h4, h5, h6, h7⟩ := PF.out.lay (.int .i64 0) (.int .i64 0) (.int .i64 0) (.int .i64 0) (.int .i64 0) (.int .i64 2) (.slice none 0 0)
    unfold lay7 at *
    exact bodyPost_ret (v := .tuple #[.agg #[.int .i64 0, .int .i64 0, .int .i64 0, .int .i64 0, .int .i64 0], .agg #[.int .i64 2, .slice none 0 0]]) (by simp [results, Tryd.results62, go_sem, h1, h2, h3, h4, h5, h6, h7]) rfl ⟨rfl, h0⟩
  · have hq := HQ.out
    rw [if_pos rfl] at hq
    subst hq
    go_wp2_with fail
    obtain ⟨h0, h1, h2, h3, h4, h5, h6, h7⟩ := P9.out.lay (.int .i64 (50)) (.int .i64 (0)) (.int .i64 (0)) (.int .i64 (0)) (.int .i64 (x0.toNat)) (.int .i64 0) (.slice none 0 0)
    unfold lay7 at *
    exact bodyPost_ret (v := .tuple #[.agg #[.int .i64 50, .int .i64 0, .int .i64 0, .int .i64 0, .int .i64 x0.toNat], .agg #[.int .i64 0, .slice none 0 0]]) (by simp [results, Tryd.results62, go_sem, h1, h2, h3, h4, h5, h6, h7]) rfl ⟨rfl, h0⟩
set_option maxRecDepth 100000 in
set_option maxHeartbeats 2000000 in
theorem rparse_start (x0 x1 x2 x3 x4 : UInt8) (a z : Int) (dv : Value) (w : World) (hx : Byt w dv [x0, x1, x2, x3, x4]) : Calls Tryd.prog 62 #[.agg #[.int .i64 48, dv, .int .i64 a, .int .i64 z]] w (RParseRes (if mayR ⟨48, (be [x0, x1, x2, x3] : Nat), x4.toNat, 0, 0⟩ then (0, ⟨48, (be [x0, x1, x2, x3] : Nat), x4.toNat, 0, 0⟩) else (2, recZ)) w) := by
  have HK : Hid (∀ W, Calls Tryd.prog 91 #[.int .i64 48] W fun e w' => e = .returned (.bool true) ∧ W = w') := fun W => (rkind_any 48 W).mono fun _ _ h' => ⟨by rw [h'.1]; rfl, h'.2⟩
  have HM : Hid (∀ W, Calls Tryd.prog 63 #[.agg #[.int .i64 48, .int .i64 (be [x0, x1, x2, x3] : Nat), .int .i64 x4.toNat, .int .i64 0, .int .i64 0]] W fun e w' => e = .returned (.bool (mayR ⟨48, (be [x0, x1, x2, x3] : Nat), x4.toNat, 0, 0⟩)) ∧ Below W.heap.size W w') := fun W => rmay_any ⟨48, (be [x0, x1, x2, x3] : Nat), x4.toNat, 0, 0⟩ W
  generalize mayR ⟨48, (be [x0, x1, x2, x3] : Nat), x4.toNat, 0, 0⟩ = m at *
  obtain ⟨q, hq⟩ : ∃ q, q = (if m = true then ((0 : Int), (⟨48, (be [x0, x1, x2, x3] : Nat), x4.toNat, 0, 0⟩ : RecS)) else (2, recZ)) := ⟨_, rfl⟩
  rw [← hq]
  have HQ := hid hq
  clear hq
  obtain ⟨A, c, hdv, hcc⟩ := hx.form
  have hdv' : dv = .slice A 5 c := hdv
  subst hdv'
  clear hdv
  obtain ⟨b, off, uu, rfl, hb0, _, _⟩ := Byt.at_ (bs := [x0, x1, x2, x3, x4]) hx (j := 0) (by simp)
  have hcn : 5 ≤ c := hcc
  have P0 := hid (QS.new w 48 (.slice (some ⟨b, off, none⟩) 5 c) a z #[.int .i64 48, .int .i64 0, .int .i64 0, .int .i64 0, .int .i64 0])
  have X := hid (And.intro hx hb0)
  have HV1 : Hid (∀ W, Byt W (.slice (some ⟨b, off, none⟩) 5 c) [x0, x1, x2, x3, x4] → Calls Tryd.prog 73 #[.slice (some ⟨b, off, none⟩) 4 c] W fun e w' => e = .returned (.int .i64 (be [x0, x1, x2, x3] : Nat)) ∧ W = w') := fun W h => uvalue_any _ [x0, x1, x2, x3] W (Byt.take (bs := [x0, x1, x2, x3, x4]) (k := 4) h (by simp)) (by simp)
  generalize be [x0, x1, x2, x3] = N1 at *
  clear hx hcc hb0
  go_enter Tryd.func62, Tryd.ntmps62
  go_wp2_with fail
  generalize (((w.alloc (.cells #[.int .i64 48, .slice (some ⟨b, off, none⟩) 5 c, .int .i64 a, .int .i64 z] 35)).alloc (.cells #[.int .i64 0, .int .i64 0, .int .i64 0, .int .i64 0, .int .i64 0] 71)).alloc (.cells #[.int .i64 0, .slice none 0 0] 32)).alloc (.cells #[.int .i64 48, .int .i64 0, .int .i64 0, .int .i64 0, .int .i64 0] 71) = w3 at *
  refine (HK.out _).mono ?_
  rintro e w2 ⟨rfl, rfl⟩
  obtain ⟨u0, u1⟩ := P0.out.ucells
  obtain ⟨t0, t1, t2, t3, t4⟩ := P0.out.tcells
  obtain ⟨f0, f1, f2, f3, f4⟩ := P0.out.tfr
  have X3 := hid (X.out.1.below P0.out.bel)
  have c4 : w3.cell? ⟨b, off + 4, none⟩ = some (.int .u8 x4.toNat) := Byt.cell (bs := [x0, x1, x2, x3, x4]) X3.out 4 x4 rfl
  have l4 := x4.toNat_lt
  have hsl : ∀ W2 : World, (Instr.sliceAt 23 (.slice (some ⟨b, off, none⟩) 5 c) none (some (.int .i64 4)) none).run Tryd.prog W2 = .ok (.slice (some ⟨b, off, none⟩) 4 c) W2 := by
    intro W2
    have hc5 : ¬ ((c : Int) < 4) := by omega
    go_simp
  go_wp2_with fail
  go_region_held3 (fun W => W.cell? ⟨b, off + 4, none⟩ = some (.int .u8 x4.toNat))
    (first
      | exact c4
      | exact far_cell3 c4 X.out.2 _ _
      | exact far_cell3 (far_cell3 c4 X.out.2 _ _) X.out.2 _ _)
    (first
      | (go_at_call 73
         refine (HV1.out _ (by first | exact X3.out | exact X3.out.drew)).mono ?_
         rintro e w4 ⟨rfl, rfl⟩)
      | fail)
  all_goals
    go_wp2_with fail
    have P5 := hid (((P0.out.drew).put 1 (.int .i64 N1)).put 2 (.int .i64 x4.toNat))
    refine (HM.out _).mono ?_
    rintro e w9 ⟨rfl, hb⟩
    have P9 := hid (QS.step P5.out hb)
    clear hb
    obtain ⟨r0, r1, r2, r3, r4, r5, r6⟩ := P9.out.rcells
    obtain ⟨f0, f1, f2, f3, f4, f5, f6⟩ := P9.out.rfr
    obtain ⟨t0, t1, t2, t3, t4⟩ := P9.out.tcells
    cases m
    · have hq := HQ.out
      rw [if_neg (by simp)] at hq
      subst hq
      go_wp2_with fail
      refine (fail_any 2 _).mono ?_
      rintro e w10 ⟨rfl, hb⟩
      have PF := hid (QS.step P9.out hb)
      clear hb
      obtain ⟨r0, r1, r2, r3, r4, r5, r6⟩ := PF.out.rcells
      obtain ⟨f0, f1, f2, f3, f4, f5, f6⟩ := PF.out.rfr
      go_wp2_with fail
      obtain ⟨h0, h1, h2, h3, h4, h5, h6, h7⟩ := PF.out.lay (.int .i64 0) (.int .i64 0) (.int .i64 0) (.int .i64 0) (.int .i64 0) (.int .i64 2) (.slice none 0 0)
      unfold lay7 at *
      exact bodyPost_ret (v := .tuple #[.agg #[.int .i64 0, .int .i64 0, .int .i64 0, .int .i64 0, .int .i64 0], .agg #[.int .i64 2, .slice none 0 0]]) (by simp [results, Tryd.results62, go_sem, h1, h2, h3, h4, h5, h6, h7]) rfl ⟨rfl, h0⟩
    · have hq := HQ.out
      rw [if_pos rfl] at hq
      subst hq
      go_wp2_with fail
      obtain ⟨h0, h1, h2, h3, h4, h5, h6, h7⟩ := P9.out.lay (.int .i64 (48)) (.int .i64 (N1)) (.int .i64 (x4.toNat)) (.int .i64 (0)) (.int .i64 (0)) (.int .i64 0) (.slice none 0 0)
      unfold lay7 at *
      exact bodyPost_ret (v := .tuple #[.agg #[.int .i64 48, .int .i64 N1, .int .i64 x4.toNat, .int .i64 0, .int .i64 0], .agg #[.int .i64 0, .slice none 0 0]]) (by simp [results, Tryd.results62, go_sem, h1, h2, h3, h4, h5, h6, h7]) rfl ⟨rfl, h0⟩
end Go.Proofs.YtabklmkdneoaaaaDoor
/- kinref26.Parse: the walks of the longer kinds; all kinds. -/
namespace Go.Proofs.YtabklmkdneoaaaaDoor
open Go.RowKit

set_option maxRecDepth 100000 in
set_option maxHeartbeats 2000000 in
theorem rparse_end (x0 x1 x2 x3 x4 x5 x6 x7 : UInt8) (a z : Int) (dv : Value) (w : World) (hx : Byt w dv [x0, x1, x2, x3, x4, x5, x6, x7]) : Calls Tryd.prog 62 #[.agg #[.int .i64 51, dv, .int .i64 a, .int .i64 z]] w (RParseRes (if mayR ⟨51, (be [x4, x5, x6, x7] : Nat), 0, (be [x0, x1, x2, x3] : Nat), 0⟩ then (0, ⟨51, (be [x4, x5, x6, x7] : Nat), 0, (be [x0, x1, x2, x3] : Nat), 0⟩) else (2, recZ)) w) := by
  have HK : Hid (∀ W, Calls Tryd.prog 91 #[.int .i64 51] W fun e w' => e = .returned (.bool true) ∧ W = w') := fun W => (rkind_any 51 W).mono fun _ _ h' => ⟨by rw [h'.1]; rfl, h'.2⟩
  have HM : Hid (∀ W, Calls Tryd.prog 63 #[.agg #[.int .i64 51, .int .i64 (be [x4, x5, x6, x7] : Nat), .int .i64 0, .int .i64 (be [x0, x1, x2, x3] : Nat), .int .i64 0]] W fun e w' => e = .returned (.bool (mayR ⟨51, (be [x4, x5, x6, x7] : Nat), 0, (be [x0, x1, x2, x3] : Nat), 0⟩)) ∧ Below W.heap.size W w') := fun W => rmay_any ⟨51, (be [x4, x5, x6, x7] : Nat), 0, (be [x0, x1, x2, x3] : Nat), 0⟩ W
  generalize mayR ⟨51, (be [x4, x5, x6, x7] : Nat), 0, (be [x0, x1, x2, x3] : Nat), 0⟩ = m at *
  obtain ⟨q, hq⟩ : ∃ q, q = (if m = true then ((0 : Int), (⟨51, (be [x4, x5, x6, x7] : Nat), 0, (be [x0, x1, x2, x3] : Nat), 0⟩ : RecS)) else (2, recZ)) := ⟨_, rfl⟩
  rw [← hq]
  have HQ := hid hq
  clear hq
  obtain ⟨A, c, hdv, hcc⟩ := hx.form
  have hdv' : dv = .slice A 8 c := hdv
  subst hdv'
  clear hdv
  obtain ⟨b, off, uu, rfl, hb0, _, _⟩ := Byt.at_ (bs := [x0, x1, x2, x3, x4, x5, x6, x7]) hx (j := 0) (by simp)
  have hcn : 8 ≤ c := hcc
  have P0 := hid (QS.new w 51 (.slice (some ⟨b, off, none⟩) 8 c) a z #[.int .i64 51, .int .i64 0, .int .i64 0, .int .i64 0, .int .i64 0])
  have X := hid (And.intro hx hb0)
  have HV : Hid (∀ (v : Value) (N : Nat), ((v = .slice (some ⟨b, off, none⟩) 4 c ∧ N = be [x0, x1, x2, x3]) ∨ (v = .slice (some ⟨b, off + 4, none⟩) 4 (c - 4) ∧ N = be [x4, x5, x6, x7])) → ∀ W, Byt W (.slice (some ⟨b, off, none⟩) 8 c) [x0, x1, x2, x3, x4, x5, x6, x7] → Calls Tryd.prog 73 #[v] W fun e w' => e = .returned (.int .i64 N) ∧ W = w') := by
    rintro v N (⟨rfl, rfl⟩ | ⟨rfl, rfl⟩) W h
    · exact uvalue_any _ [x0, x1, x2, x3] W (Byt.take (bs := [x0, x1, x2, x3, x4, x5, x6, x7]) (k := 4) h (by simp)) (by simp)
    · exact uvalue_any _ [x4, x5, x6, x7] W (Byt.dropAt (bs := [x0, x1, x2, x3, x4, x5, x6, x7]) (k := 4) h (by simp)) (by simp)
  generalize be [x0, x1, x2, x3] = N1 at *
  generalize be [x4, x5, x6, x7] = N2 at *
  clear hx hcc hb0
  go_enter Tryd.func62, Tryd.ntmps62
  go_wp2_with fail
  generalize (((w.alloc (.cells #[.int .i64 51, .slice (some ⟨b, off, none⟩) 8 c, .int .i64 a, .int .i64 z] 35)).alloc (.cells #[.int .i64 0, .int .i64 0, .int .i64 0, .int .i64 0, .int .i64 0] 71)).alloc (.cells #[.int .i64 0, .slice none 0 0] 32)).alloc (.cells #[.int .i64 51, .int .i64 0, .int .i64 0, .int .i64 0, .int .i64 0] 71) = w3 at *
  refine (HK.out _).mono ?_
  rintro e w2 ⟨rfl, rfl⟩
  obtain ⟨u0, u1⟩ := P0.out.ucells
  obtain ⟨t0, t1, t2, t3, t4⟩ := P0.out.tcells
  obtain ⟨f0, f1, f2, f3, f4⟩ := P0.out.tfr
  have X3 := hid (X.out.1.below P0.out.bel)
  have hsl : ∀ W2 : World, (Instr.sliceAt 23 (.slice (some ⟨b, off, none⟩) 8 c) none (some (.int .i64 4)) none).run Tryd.prog W2 = .ok (.slice (some ⟨b, off, none⟩) 4 c) W2 := by
    intro W2
    have hc5 : ¬ ((c : Int) < 4) := by omega
    go_simp
  have hsl2 : ∀ W2 : World, (Instr.sliceAt 23 (.slice (some ⟨b, off, none⟩) 8 c) (some (.int .i64 4)) (some (.int .i64 8)) none).run Tryd.prog W2 = .ok (.slice (some ⟨b, off + 4, none⟩) 4 (c - 4)) W2 := by
    intro W2
    have hc5 : ¬ ((c : Int) < 8) := by omega
    have hc6 : ¬ (c = 4) := by omega
    go_simp
  go_wp2_with fail
  go_region_held3 (fun _ => True)
    (exact trivial)
    (first
      | (go_at_call 73
         refine (HV.out _ _ (by first | exact .inl ⟨rfl, rfl⟩ | exact .inr ⟨rfl, rfl⟩) _ (by first | exact X3.out | exact X3.out.drew)).mono ?_
         rintro e w4 ⟨rfl, rfl⟩)
      | fail)
  all_goals
    go_wp2_with fail
    have P5 := hid (((P0.out.drew).put 3 (.int .i64 N1)).put 1 (.int .i64 N2))
    refine (HM.out _).mono ?_
    rintro e w9 ⟨rfl, hb⟩
    have P9 := hid (QS.step P5.out hb)
    clear hb
    obtain ⟨r0, r1, r2, r3, r4, r5, r6⟩ := P9.out.rcells
    obtain ⟨f0, f1, f2, f3, f4, f5, f6⟩ := P9.out.rfr
    obtain ⟨t0, t1, t2, t3, t4⟩ := P9.out.tcells
    cases m
    · have hq := HQ.out
      rw [if_neg (by simp)] at hq
      subst hq
      go_wp2_with fail
      refine (fail_any 2 _).mono ?_
      rintro e w10 ⟨rfl, hb⟩
      have PF := hid (QS.step P9.out hb)
      clear hb
      obtain ⟨r0, r1, r2, r3, r4, r5, r6⟩ := PF.out.rcells
      obtain ⟨f0, f1, f2, f3, f4, f5, f6⟩ := PF.out.rfr
      go_wp2_with fail
      obtain ⟨h0, h1, h2, h3, h4, h5, h6, h7⟩ := PF.out.lay (.int .i64 0) (.int .i64 0) (.int .i64 0) (.int .i64 0) (.int .i64 0) (.int .i64 2) (.slice none 0 0)
      unfold lay7 at *
      exact bodyPost_ret (v := .tuple #[.agg #[.int .i64 0, .int .i64 0, .int .i64 0, .int .i64 0, .int .i64 0], .agg #[.int .i64 2, .slice none 0 0]]) (by simp [results, Tryd.results62, go_sem, h1, h2, h3, h4, h5, h6, h7]) rfl ⟨rfl, h0⟩
    · have hq := HQ.out
      rw [if_pos rfl] at hq
      subst hq
      go_wp2_with fail
      obtain ⟨h0, h1, h2, h3, h4, h5, h6, h7⟩ := P9.out.lay (.int .i64 (51)) (.int .i64 (N2)) (.int .i64 (0)) (.int .i64 (N1)) (.int .i64 (0)) (.int .i64 0) (.slice none 0 0)
      unfold lay7 at *
      exact bodyPost_ret (v := .tuple #[.agg #[.int .i64 51, .int .i64 N2, .int .i64 0, .int .i64 N1, .int .i64 0], .agg #[.int .i64 0, .slice none 0 0]]) (by simp [results, Tryd.results62, go_sem, h1, h2, h3, h4, h5, h6, h7]) rfl ⟨rfl, h0⟩
set_option maxRecDepth 100000 in
set_option maxHeartbeats 2000000 in
theorem rparse_done (x8 x0 x1 x2 x3 x4 x5 x6 x7 : UInt8) (a z : Int) (dv : Value) (w : World) (hx : Byt w dv [x8, x0, x1, x2, x3, x4, x5, x6, x7]) : Calls Tryd.prog 62 #[.agg #[.int .i64 49, dv, .int .i64 a, .int .i64 z]] w (RParseRes (if mayR ⟨49, (be [x4, x5, x6, x7] : Nat), x8.toNat, (be [x0, x1, x2, x3] : Nat), 0⟩ then (0, ⟨49, (be [x4, x5, x6, x7] : Nat), x8.toNat, (be [x0, x1, x2, x3] : Nat), 0⟩) else (2, recZ)) w) := by
  have HK : Hid (∀ W, Calls Tryd.prog 91 #[.int .i64 49] W fun e w' => e = .returned (.bool true) ∧ W = w') := fun W => (rkind_any 49 W).mono fun _ _ h' => ⟨by rw [h'.1]; rfl, h'.2⟩
  have HM : Hid (∀ W, Calls Tryd.prog 63 #[.agg #[.int .i64 49, .int .i64 (be [x4, x5, x6, x7] : Nat), .int .i64 x8.toNat, .int .i64 (be [x0, x1, x2, x3] : Nat), .int .i64 0]] W fun e w' => e = .returned (.bool (mayR ⟨49, (be [x4, x5, x6, x7] : Nat), x8.toNat, (be [x0, x1, x2, x3] : Nat), 0⟩)) ∧ Below W.heap.size W w') := fun W => rmay_any ⟨49, (be [x4, x5, x6, x7] : Nat), x8.toNat, (be [x0, x1, x2, x3] : Nat), 0⟩ W
  generalize mayR ⟨49, (be [x4, x5, x6, x7] : Nat), x8.toNat, (be [x0, x1, x2, x3] : Nat), 0⟩ = m at *
  obtain ⟨q, hq⟩ : ∃ q, q = (if m = true then ((0 : Int), (⟨49, (be [x4, x5, x6, x7] : Nat), x8.toNat, (be [x0, x1, x2, x3] : Nat), 0⟩ : RecS)) else (2, recZ)) := ⟨_, rfl⟩
  rw [← hq]
  have HQ := hid hq
  clear hq
  obtain ⟨A, c, hdv, hcc⟩ := hx.form
  have hdv' : dv = .slice A 9 c := hdv
  subst hdv'
  clear hdv
  obtain ⟨b, off, uu, rfl, hb0, _, _⟩ := Byt.at_ (bs := [x8, x0, x1, x2, x3, x4, x5, x6, x7]) hx (j := 0) (by simp)
  have hcn : 9 ≤ c := hcc
  have P0 := hid (QS.new w 49 (.slice (some ⟨b, off, none⟩) 9 c) a z #[.int .i64 49, .int .i64 0, .int .i64 0, .int .i64 0, .int .i64 0])
  have X := hid (And.intro hx hb0)
  obtain ⟨o1, ho1⟩ : ∃ o, o = off + 1 := ⟨_, rfl⟩
  obtain ⟨o5, ho5⟩ : ∃ o, o = off + 5 := ⟨_, rfl⟩
  obtain ⟨c1, hc1⟩ : ∃ o, o = c - 1 := ⟨_, rfl⟩
  obtain ⟨c5, hc5⟩ : ∃ o, o = c - 5 := ⟨_, rfl⟩
  have hsl : ∀ W2 : World, (Instr.sliceAt 23 (.slice (some ⟨b, off, none⟩) 9 c) (some (.int .i64 1)) (some (.int .i64 5)) none).run Tryd.prog W2 = .ok (.slice (some ⟨b, o1, none⟩) 4 c1) W2 := by
    intro W2
    subst ho1 hc1
    have hc5 : ¬ ((c : Int) < 5) := by omega
    have hc6 : ¬ (c = 1) := by omega
    go_simp
  have hsl2 : ∀ W2 : World, (Instr.sliceAt 23 (.slice (some ⟨b, off, none⟩) 9 c) (some (.int .i64 5)) (some (.int .i64 9)) none).run Tryd.prog W2 = .ok (.slice (some ⟨b, o5, none⟩) 4 c5) W2 := by
    intro W2
    subst ho5 hc5
    have hc5 : ¬ ((c : Int) < 9) := by omega
    have hc6 : ¬ (c = 5) := by omega
    go_simp
  have HV : Hid (∀ (v : Value) (N : Nat), ((v = .slice (some ⟨b, o1, none⟩) 4 c1 ∧ N = be [x0, x1, x2, x3]) ∨ (v = .slice (some ⟨b, o5, none⟩) 4 c5 ∧ N = be [x4, x5, x6, x7])) → ∀ W, Byt W (.slice (some ⟨b, off, none⟩) 9 c) [x8, x0, x1, x2, x3, x4, x5, x6, x7] → Calls Tryd.prog 73 #[v] W fun e w' => e = .returned (.int .i64 N) ∧ W = w') := by
    rintro v N (⟨rfl, rfl⟩ | ⟨rfl, rfl⟩) W h
    · subst ho1 hc1
      exact uvalue_any _ [x0, x1, x2, x3] W (Byt.take (bs := [x0, x1, x2, x3, x4, x5, x6, x7]) (k := 4) (Byt.dropAt (bs := [x8, x0, x1, x2, x3, x4, x5, x6, x7]) (k := 1) h (by simp)) (by simp)) (by simp)
    · subst ho5 hc5
      exact uvalue_any _ [x4, x5, x6, x7] W (Byt.dropAt (bs := [x8, x0, x1, x2, x3, x4, x5, x6, x7]) (k := 5) h (by simp)) (by simp)
  generalize be [x0, x1, x2, x3] = N1 at *
  generalize be [x4, x5, x6, x7] = N2 at *
  clear ho1 ho5 hc1 hc5
  clear hx hcc hb0
  go_enter Tryd.func62, Tryd.ntmps62
  go_wp2_with fail
  generalize (((w.alloc (.cells #[.int .i64 49, .slice (some ⟨b, off, none⟩) 9 c, .int .i64 a, .int .i64 z] 35)).alloc (.cells #[.int .i64 0, .int .i64 0, .int .i64 0, .int .i64 0, .int .i64 0] 71)).alloc (.cells #[.int .i64 0, .slice none 0 0] 32)).alloc (.cells #[.int .i64 49, .int .i64 0, .int .i64 0, .int .i64 0, .int .i64 0] 71) = w3 at *
  refine (HK.out _).mono ?_
  rintro e w2 ⟨rfl, rfl⟩
  obtain ⟨u0, u1⟩ := P0.out.ucells
  obtain ⟨t0, t1, t2, t3, t4⟩ := P0.out.tcells
  obtain ⟨f0, f1, f2, f3, f4⟩ := P0.out.tfr
  have X3 := hid (X.out.1.below P0.out.bel)
  have c0 : w3.cell? ⟨b, off, none⟩ = some (.int .u8 x8.toNat) := Byt.cell (bs := [x8, x0, x1, x2, x3, x4, x5, x6, x7]) X3.out 0 x8 rfl
  have l8 := x8.toNat_lt
  have hw8 : IntKind.i64.wrap (x8.toNat : Int) = (x8.toNat : Int) := IntWalk.i64_in _ (by omega)
  have hb1 : ¬ (b = w.heap.size + 1 + 1 + 1) := by have := X.out.2; omega
  have hb2 : ¬ (w.heap.size + 1 + 1 + 1 = b) := by omega
  go_wp2_with fail
  go_region_held3 (fun W => W.cell? ⟨b, off, none⟩ = some (.int .u8 x8.toNat))
    (first
      | exact c0
      | go_keep)
    (first
      | (go_at_call 73
         refine (HV.out _ _ (by first | exact .inl ⟨rfl, rfl⟩ | exact .inr ⟨rfl, rfl⟩) _ (by first | exact X3.out | exact X3.out.drew)).mono ?_
         rintro e w4 ⟨rfl, rfl⟩)
      | fail)
  all_goals
    go_wp2_with fail
    have P5 := hid (QS.drew (((P0.out.put 2 (.int .i64 x8.toNat)).put 3 (.int .i64 N1)).put 1 (.int .i64 N2)))
    refine (HM.out _).mono ?_
    rintro e w9 ⟨rfl, hb⟩
    have P9 := hid (QS.step P5.out hb)
    clear hb
    obtain ⟨r0, r1, r2, r3, r4, r5, r6⟩ := P9.out.rcells
    obtain ⟨f0, f1, f2, f3, f4, f5, f6⟩ := P9.out.rfr
    obtain ⟨t0, t1, t2, t3, t4⟩ := P9.out.tcells
    cases m
    · have hq := HQ.out
      rw [if_neg (by simp)] at hq
      subst hq
      go_wp2_with fail
      refine (fail_any 2 _).mono ?_
      rintro e w10 ⟨rfl, hb⟩
      have PF := hid (QS.step P9.out hb)
      clear hb
      obtain ⟨r0, r1, r2, r3, r4, r5, r6⟩ := PF.out.rcells
      obtain ⟨f0, f1, f2, f3, f4, f5, f6⟩ := PF.out.rfr
      go_wp2_with fail
      obtain ⟨h0, h1, h2, h3, h4, h5, h6, h7⟩ := PF.out.lay (.int .i64 0) (.int .i64 0) (.int .i64 0) (.int .i64 0) (.int .i64 0) (.int .i64 2) (.slice none 0 0)
      unfold lay7 at *
      exact bodyPost_ret (v := .tuple #[.agg #[.int .i64 0, .int .i64 0, .int .i64 0, .int .i64 0, .int .i64 0], .agg #[.int .i64 2, .slice none 0 0]]) (by simp [results, Tryd.results62, go_sem, h1, h2, h3, h4, h5, h6, h7]) rfl ⟨rfl, h0⟩
    · have hq := HQ.out
      rw [if_pos rfl] at hq
      subst hq
      go_wp2_with fail
      obtain ⟨h0, h1, h2, h3, h4, h5, h6, h7⟩ := P9.out.lay (.int .i64 (49)) (.int .i64 (N2)) (.int .i64 (x8.toNat)) (.int .i64 (N1)) (.int .i64 (0)) (.int .i64 0) (.slice none 0 0)
      unfold lay7 at *
      exact bodyPost_ret (v := .tuple #[.agg #[.int .i64 49, .int .i64 N2, .int .i64 x8.toNat, .int .i64 N1, .int .i64 0], .agg #[.int .i64 0, .slice none 0 0]]) (by simp [results, Tryd.results62, go_sem, h1, h2, h3, h4, h5, h6, h7]) rfl ⟨rfl, h0⟩
theorem rparse_any (k a z : Int) (dv : Value) (d : List UInt8) (w : World) (hx : Byt w dv d) : Calls Tryd.prog 62 #[.agg #[.int .i64 k, dv, .int .i64 a, .int .i64 z]] w (RParseRes (parseR k d) w) := by
  cases hb : kindB k
  · have e : parseR k d = (13, recZ) := by unfold parseR; rw [if_pos hb]
    rw [e]
    exact rparse_kind k a z dv w hb
  · have hk : k = 48 ∨ k = 49 ∨ k = 50 ∨ k = 51 := by unfold kindB at hb; simp at hb; omega
    obtain ⟨kn, rfl⟩ : ∃ kn : Nat, k = kn := ⟨k.toNat, by omega⟩
    have hk' : kn = 48 ∨ kn = 49 ∨ kn = 50 ∨ kn = 51 := by omega
    have e : parseR kn d = match parseRec kn d with
      | none => (2, recZ)
      | some r => if mayR r then (0, r) else (2, recZ) := by
      unfold parseR
      rw [if_neg (by rw [hb]; simp)]
      all_goals (cases parseRec (kn : Int) d <;> rfl)
    by_cases hl : d.length = recLen kn
    · rw [e]
      rcases hk' with rfl | rfl | rfl | rfl
      · obtain ⟨a0, b0, c0, e0, n0, rfl⟩ := len5 hl
        exact rparse_start a0 b0 c0 e0 n0 a z dv w hx
      · obtain ⟨n0, a0, b0, c0, e0, f0, g0, i0, j0, rfl⟩ := len9 hl
        exact rparse_done n0 a0 b0 c0 e0 f0 g0 i0 j0 a z dv w hx
      · obtain ⟨a0, rfl⟩ := len1 hl
        exact rparse_fail a0 a z dv w hx
      · obtain ⟨a0, b0, c0, e0, f0, g0, i0, j0, rfl⟩ := len8 hl
        exact rparse_end a0 b0 c0 e0 f0 g0 i0 j0 a z dv w hx
    · rw [e, parseRec_none hk' hl]
      obtain ⟨A, c, rfl, _⟩ := hx.form
      exact rparse_form kn a z A d.length c w hk' hl
end Go.Proofs.YtabklmkdneoaaaaDoor
