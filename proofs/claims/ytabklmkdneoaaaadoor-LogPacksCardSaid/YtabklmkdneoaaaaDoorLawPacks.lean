/- LogPacks: the walk. -/
import Derived.Test.YtabklmkdneoaaaaDoorGD
import Derived.Test.YtabklmkdneoaaaaDoorOpenStr
namespace Go.Proofs.YtabklmkdneoaaaaDoor
open Go.RowKit

theorem gpacks_big (r : RecS) (k a z : Int) (A : Option Addr) (n cc : Nat) (w : World) (hg : ErrT w) (hs : 20000 < n) :
    Calls Tryd.prog 15 #[r.val, .agg #[.int .i64 k, .slice A n cc, .int .i64 a, .int .i64 z]] w fun e w' => e = .returned (.bool true) ∧ Below w.heap.size w w' := by
  have hb0 : Below w.heap.size w ((w.alloc (.cells #[.int .i64 r.kind, .int .i64 r.sum, .int .i64 r.num, .int .i64 r.len, .int .i64 r.code] 73)).alloc (.cells #[.int .i64 k, .slice A n cc, .int .i64 a, .int .i64 z] 35)) := ((Below.refl _ _).alloc (Nat.le_refl _) _).alloc (by simp) _
  have hb1 : Blk ((w.alloc (.cells #[.int .i64 r.kind, .int .i64 r.sum, .int .i64 r.num, .int .i64 r.len, .int .i64 r.code] 73)).alloc (.cells #[.int .i64 k, .slice A n cc, .int .i64 a, .int .i64 z] 35)) (w.heap.size + 1) 35 #[.int .i64 k, .slice A n cc, .int .i64 a, .int .i64 z] := blk_new_at (by simp) _ _
  have HG := hid (And.intro (hg.below hb0 hg.lt) (And.intro hb0 hb1))
  have hb' : decide ((20000 : Int) < (n : Int)) = true := by simp; omega
  unfold RecS.val
  clear hg hs hb0 hb1
  go_enter Tryd.func15, Tryd.ntmps15
  go_wp2_with fail
  refine (gfirst_any _ HG.out.1).mono ?_
  rintro e w1 ⟨rfl, h1⟩
  have B1 := hid h1
  have U1 := hid (HG.out.2.2.below h1 HG.out.2.2.lt)
  clear h1
  have u1 : w1.cell? ⟨w.heap.size + 1, 1, none⟩ = some (.slice A n cc) := by rw [U1.out.cell]; rfl
  go_wp2_with fail
  refine (gfirst_any _ (HG.out.1.below B1.out HG.out.1.lt)).mono ?_
  rintro e w2 ⟨rfl, h1⟩
  have B2 := hid h1
  clear h1
  go_wp2_with fail
  go_ret
  exact ⟨rfl, HG.out.2.1.trans ((B1.out.trans (B2.out.mono B1.out.size)).mono HG.out.2.1.size)⟩
/-- What LogPacks holds. -/
structure PK (w : World) (r : RecS) (uc : Array Value) (x : Value) (bs : List UInt8) (W : World) : Prop where
  et : ErrT W
  r : Blk W w.heap.size 73 #[.int .i64 r.kind, .int .i64 r.sum, .int .i64 r.num, .int .i64 r.len, .int .i64 r.code]
  u : Blk W (w.heap.size + 1) 35 uc
  bel : Below w.heap.size w W
  x : Byt W x bs
theorem PK.step {w W W' : World} {r : RecS} {uc : Array Value} {x : Value} {bs : List UInt8} (h : PK w r uc x bs W) (hb : Below W.heap.size W W') : PK w r uc x bs W' :=
  ⟨h.et.below hb h.et.lt, h.r.below hb h.r.lt, h.u.below hb h.u.lt, h.bel.trans (hb.mono h.bel.size), h.x.below hb⟩
theorem PK.cells {w W : World} {r : RecS} {uc : Array Value} {x : Value} {bs : List UInt8} (h : PK w r uc x bs W) : W.cell? ⟨w.heap.size, 0, none⟩ = some (.int .i64 r.kind) ∧ W.cell? ⟨w.heap.size, 1, none⟩ = some (.int .i64 r.sum) ∧ W.cell? ⟨w.heap.size, 2, none⟩ = some (.int .i64 r.num) ∧ W.cell? ⟨w.heap.size, 3, none⟩ = some (.int .i64 r.len) ∧ W.cell? ⟨w.heap.size, 4, none⟩ = some (.int .i64 r.code) := by
  refine ⟨?_, ?_, ?_, ?_, ?_⟩ <;> (rw [h.r.cell]; rfl)
theorem PK.ucells {w W : World} {r : RecS} {k a z : Int} {x : Value} {bs : List UInt8} (h : PK w r #[.int .i64 k, x, .int .i64 a, .int .i64 z] x bs W) : W.cell? ⟨w.heap.size + 1, 0, none⟩ = some (.int .i64 k) ∧ W.cell? ⟨w.heap.size + 1, 1, none⟩ = some x ∧ W.cell? ⟨w.heap.size + 1, 2, none⟩ = some (.int .i64 a) ∧ W.cell? ⟨w.heap.size + 1, 3, none⟩ = some (.int .i64 z) := by
  refine ⟨?_, ?_, ?_, ?_⟩ <;> (rw [h.u.cell]; rfl)
theorem rrecs_eq (a0 a1 a2 a3 a4 : Int) (W : World) : (binOp .eql 71 (.agg #[.int .i64 a0, .int .i64 a1, .int .i64 a2, .int .i64 a3, .int .i64 a4]) (.agg #[.int .i64 a0, .int .i64 a1, .int .i64 a2, .int .i64 a3, .int .i64 a4])).run Tryd.prog W = .ok (.bool true) W := by
  go_simp
/-- .. and behind all calls. -/
structure PQ (w : World) (r p : RecS) (uc : Array Value) (x : Value) (bs : List UInt8) (g4 g5 g6 : Nat) (pn pc : Int) (v2 v4 : Value) (pu : List UInt8) (W : World) : Prop where
  pk : PK w r uc x bs W
  f : Blk W g4 32 #[.int .i64 pn, .slice none 0 0]
  xr : Blk W g5 73 #[.int .i64 p.kind, .int .i64 p.sum, .int .i64 p.num, .int .i64 p.len, .int .i64 p.code]
  y : Blk W g6 71 #[.int .i64 p.kind, .int .i64 p.sum, .int .i64 p.num, .int .i64 p.len, .int .i64 p.code]
  h : Blk W (g6 + 1) 32 #[.int .i64 pc, .slice none 0 0]
  b2 : Byt W v2 pu
  b4 : Byt W v4 pu
section
variable {w W W' : World} {r p : RecS} {uc : Array Value} {x v2 v4 : Value} {bs pu : List UInt8} {g4 g5 g6 : Nat} {pn pc : Int}
theorem PQ.step (q : PQ w r p uc x bs g4 g5 g6 pn pc v2 v4 pu W) (hb : Below W.heap.size W W') : PQ w r p uc x bs g4 g5 g6 pn pc v2 v4 pu W' :=
  ⟨q.pk.step hb, q.f.below hb q.f.lt, q.xr.below hb q.xr.lt, q.y.below hb q.y.lt, q.h.below hb q.h.lt, q.b2.below hb, q.b4.below hb⟩
theorem PQ.cells (q : PQ w r p uc x bs g4 g5 g6 pn pc v2 v4 pu W) :
    W.cell? ⟨w.heap.size, 0, none⟩ = some (.int .i64 r.kind) ∧ W.cell? ⟨w.heap.size, 1, none⟩ = some (.int .i64 r.sum) ∧ W.cell? ⟨w.heap.size, 2, none⟩ = some (.int .i64 r.num) ∧ W.cell? ⟨w.heap.size, 3, none⟩ = some (.int .i64 r.len) ∧ W.cell? ⟨w.heap.size, 4, none⟩ = some (.int .i64 r.code) ∧
    W.cell? ⟨g4, 0, none⟩ = some (.int .i64 pn) ∧ W.cell? ⟨g4, 1, none⟩ = some (.slice none 0 0) ∧
    W.cell? ⟨g5, 0, none⟩ = some (.int .i64 p.kind) ∧ W.cell? ⟨g5, 1, none⟩ = some (.int .i64 p.sum) ∧ W.cell? ⟨g5, 2, none⟩ = some (.int .i64 p.num) ∧ W.cell? ⟨g5, 3, none⟩ = some (.int .i64 p.len) ∧ W.cell? ⟨g5, 4, none⟩ = some (.int .i64 p.code) ∧
    W.cell? ⟨g6, 0, none⟩ = some (.int .i64 p.kind) ∧ W.cell? ⟨g6, 1, none⟩ = some (.int .i64 p.sum) ∧ W.cell? ⟨g6, 2, none⟩ = some (.int .i64 p.num) ∧ W.cell? ⟨g6, 3, none⟩ = some (.int .i64 p.len) ∧ W.cell? ⟨g6, 4, none⟩ = some (.int .i64 p.code) ∧
    W.cell? ⟨g6 + 1, 0, none⟩ = some (.int .i64 pc) ∧ W.cell? ⟨g6 + 1, 1, none⟩ = some (.slice none 0 0) := by
  refine ⟨?_, ?_, ?_, ?_, ?_, ?_, ?_, ?_, ?_, ?_, ?_, ?_, ?_, ?_, ?_, ?_, ?_, ?_, ?_⟩
  all_goals first | (rw [q.pk.r.cell]; rfl) | (rw [q.f.cell]; rfl) | (rw [q.xr.cell]; rfl) | (rw [q.y.cell]; rfl) | (rw [q.h.cell]; rfl)
end
set_option maxRecDepth 100000 in
set_option maxHeartbeats 8000000 in
theorem gpacks_walk (r : RecS) (k a z : Int) (x : Value) (bs : List UInt8) (w : World) (hx : Byt w x bs) (_ : bs.length ≤ maxLen) (hg : ErrT w) :
    Calls Tryd.prog 15 #[r.val, .agg #[.int .i64 k, x, .int .i64 a, .int .i64 z]] w fun e w' => e = .returned (.bool true) ∧ Below w.heap.size w w' := by
  obtain ⟨A, cc, rfl, hc⟩ := hx.form
  by_cases hbig : 20000 < bs.length
  · exact gpacks_big r k a z A bs.length cc w hg hbig
  · have hb' : decide ((20000 : Int) < (bs.length : Int)) = false := by simp; omega
    have HL := hid (show bs.length ≤ 20000 by omega)
    have hb0 : Below w.heap.size w ((w.alloc (.cells #[.int .i64 r.kind, .int .i64 r.sum, .int .i64 r.num, .int .i64 r.len, .int .i64 r.code] 73)).alloc (.cells #[.int .i64 k, .slice A bs.length cc, .int .i64 a, .int .i64 z] 35)) := ((Below.refl _ _).alloc (Nat.le_refl _) _).alloc (by simp) _
    have R0 := hid (show PK w r #[.int .i64 k, .slice A bs.length cc, .int .i64 a, .int .i64 z] (.slice A bs.length cc) bs _ from ⟨hg.below hb0 hg.lt, (Blk.new _ _ _).alloc _, blk_new_at (by simp) _ _, hb0, hx.below hb0⟩)
    have HP := hid (fun W => gpack_any r W)
    have HRP := hid (fun W => rpack_any r W)
    have HPA := hid (fun W (hW : Byt W (.slice A bs.length cc) bs) => gparse_any k a z _ bs W hW)
    have HRA := hid (fun W (hW : Byt W (.slice A bs.length cc) bs) => rparse_any k a z _ bs W hW)
    have HM := hid (fun W => gmay_any r W)
    have HRM := hid (fun W => rmay_any r W)
    have HPl := hid (fun W => plain_any r W)
    unfold PackRes at HP
    unfold RPackRes at HRP
    generalize packU r = pu at *
    generalize packNo r = pn at *
    generalize mayR r = mr at *
    obtain ⟨p, hp⟩ : ∃ p, p = parseR k bs := ⟨_, rfl⟩
    rw [← hp] at HPA HRA
    have HPl2 := hid (fun W => plain_any p.2 W)
    obtain ⟨pc, ⟨pk, ps, pnn, pl, pcd⟩⟩ := p
    unfold ParseRes at HPA
    unfold RParseRes at HRA
    unfold RecS.val at *
    dsimp only at *
    obtain ⟨rk, r1, r2, r3, r4⟩ := r
    dsimp only at *
    clear hbig hg hx hc hb0 hp
    go_enter Tryd.func15, Tryd.ntmps15
    go_wp2_with fail
    refine (gfirst_any _ R0.out.et).mono ?_
    rintro e w1 ⟨rfl, h1⟩
    have R1 := hid (R0.out.step h1)
    clear h1
    obtain ⟨p0, p1, p2, p3, p4⟩ := R1.out.cells
    obtain ⟨q0, q1, q2, q3⟩ := R1.out.ucells
    dsimp only at p0 p1 p2 p3 p4
    go_wp2_with fail
    refine (HP.out _).mono ?_
    rintro e w2 ⟨A2, c2, rfl, ho, h2⟩
    have R2 := hid (R1.out.step h2)
    have O2 := hid (Byt.of_own ho rfl)
    clear ho h2 p0 p1 p2 p3 p4 q0 q1 q2 q3
    obtain ⟨p0, p1, p2, p3, p4⟩ := R2.out.cells
    dsimp only at p0 p1 p2 p3 p4
    go_wp2_with fail
    refine (HPl.out _).mono ?_
    rintro e w3 ⟨rfl, h3⟩
    have R3 := hid (R2.out.step h3)
    have O3 := hid (O2.out.below h3)
    clear h3 p0 p1 p2 p3 p4
    go_wp2_with fail
    refine (HRP.out _).mono ?_
    rintro e w4 ⟨A4, c4, rfl, ho, h4⟩
    have hba : Below w4.heap.size w4 (w4.alloc (.cells #[.int .i64 pn, .slice none 0 0] 32)) := (Below.refl _ _).alloc (Nat.le_refl _) _
    have R4 := hid ((R3.out.step h4).step hba)
    have O4 := hid (And.intro ((O3.out.below h4).below hba) (And.intro ((Byt.of_own ho rfl).below hba) (Blk.new w4 32 #[.int .i64 pn, .slice none 0 0])))
    clear ho h4 hba
    obtain ⟨q0, q1, q2, q3⟩ := R4.out.ucells
    go_wp2_with fail
    refine (HPA.out _ R4.out.x).mono ?_
    rintro e w5 ⟨rfl, h5⟩
    have hba : Below w5.heap.size w5 (w5.alloc (.cells #[.int .i64 pk, .int .i64 ps, .int .i64 pnn, .int .i64 pl, .int .i64 pcd] 73)) := (Below.refl _ _).alloc (Nat.le_refl _) _
    have R5 := hid ((R4.out.step h5).step hba)
    have O5 := hid (And.intro ((O4.out.1.below h5).below hba) (And.intro ((O4.out.2.1.below h5).below hba) (And.intro ((O4.out.2.2.below h5 O4.out.2.2.lt).below hba (by have := O4.out.2.2.lt; have := h5.size; omega)) (Blk.new w5 73 #[.int .i64 pk, .int .i64 ps, .int .i64 pnn, .int .i64 pl, .int .i64 pcd]))))
    clear h5 hba q0 q1 q2 q3
    obtain ⟨q0, q1, q2, q3⟩ := R5.out.ucells
    go_wp2_with fail
    refine (HRA.out _ R5.out.x).mono ?_
    rintro e w6 ⟨rfl, h6⟩
    have hba : Below w6.heap.size w6 ((w6.alloc (.cells #[.int .i64 pk, .int .i64 ps, .int .i64 pnn, .int .i64 pl, .int .i64 pcd] 71)).alloc (.cells #[.int .i64 pc, .slice none 0 0] 32)) := ((Below.refl _ _).alloc (Nat.le_refl _) _).alloc (by simp) _
    have Q0 := hid (show PQ w ⟨rk, r1, r2, r3, r4⟩ ⟨pk, ps, pnn, pl, pcd⟩ #[.int .i64 k, .slice A bs.length cc, .int .i64 a, .int .i64 z] (.slice A bs.length cc) bs w4.heap.size w5.heap.size w6.heap.size pn pc (.slice A2 pu.length c2) (.slice A4 pu.length c4) pu ((w6.alloc (.cells #[.int .i64 pk, .int .i64 ps, .int .i64 pnn, .int .i64 pl, .int .i64 pcd] 71)).alloc (.cells #[.int .i64 pc, .slice none 0 0] 32)).drew from
      ⟨(R5.out.step h6).step hba.drew, (O5.out.2.2.1.below h6 O5.out.2.2.1.lt).below hba.drew (by have := O5.out.2.2.1.lt; have := h6.size; omega), (O5.out.2.2.2.below h6 O5.out.2.2.2.lt).below hba.drew (by have := O5.out.2.2.2.lt; have := h6.size; omega), (Blk.new _ _ _).alloc _, blk_new_at (by simp) _ _, (O5.out.1.below h6).below hba.drew, (O5.out.2.1.below h6).below hba.drew⟩)
    have hq := rrecs_eq pk ps pnn pl pcd
    clear h6 hba q0 q1 q2 q3
    go_wp2_with fail
    go_region_held3 (fun W => W.cell? ⟨w.heap.size, 0, none⟩ = some (.int .i64 rk) ∧ W.cell? ⟨w.heap.size, 1, none⟩ = some (.int .i64 r1) ∧ W.cell? ⟨w.heap.size, 2, none⟩ = some (.int .i64 r2) ∧ W.cell? ⟨w.heap.size, 3, none⟩ = some (.int .i64 r3) ∧ W.cell? ⟨w.heap.size, 4, none⟩ = some (.int .i64 r4) ∧ W.cell? ⟨w4.heap.size, 0, none⟩ = some (.int .i64 pn) ∧ W.cell? ⟨w4.heap.size, 1, none⟩ = some (.slice none 0 0) ∧ W.cell? ⟨w5.heap.size, 0, none⟩ = some (.int .i64 pk) ∧ W.cell? ⟨w5.heap.size, 1, none⟩ = some (.int .i64 ps) ∧ W.cell? ⟨w5.heap.size, 2, none⟩ = some (.int .i64 pnn) ∧ W.cell? ⟨w5.heap.size, 3, none⟩ = some (.int .i64 pl) ∧ W.cell? ⟨w5.heap.size, 4, none⟩ = some (.int .i64 pcd) ∧ W.cell? ⟨w6.heap.size, 0, none⟩ = some (.int .i64 pk) ∧ W.cell? ⟨w6.heap.size, 1, none⟩ = some (.int .i64 ps) ∧ W.cell? ⟨w6.heap.size, 2, none⟩ = some (.int .i64 pnn) ∧ W.cell? ⟨w6.heap.size, 3, none⟩ = some (.int .i64 pl) ∧ W.cell? ⟨w6.heap.size, 4, none⟩ = some (.int .i64 pcd) ∧ W.cell? ⟨w6.heap.size + 1, 0, none⟩ = some (.int .i64 pc) ∧ W.cell? ⟨w6.heap.size + 1, 1, none⟩ = some (.slice none 0 0))
      (first
        | exact Q7.out.cells
        | exact Q6.out.cells
        | exact Q5.out.cells
        | exact Q4.out.cells
        | exact Q3.out.cells
        | exact Q2.out.cells
        | exact Q1.out.cells
        | exact Q0.out.cells)
      (first
        | (go_at_call 23
           have hN := Q6.out
           clear hN
           refine (err_same pc _ (by exact Q6.out.pk.et)).mono ?_
           rintro e x7 ⟨rfl, hb⟩
           have Q7 := hid (Q6.out.step (by first | exact hb | exact ⟨hb.os, hb.tape, hb.output, hb.size, hb.block⟩))
           clear hb)
        | (go_at_call 43
           have hN := Q5.out
           clear hN
           refine (HPl2.out _).mono ?_
           rintro e x6 ⟨rfl, hb⟩
           have Q6 := hid (Q5.out.step (by first | exact hb | exact ⟨hb.os, hb.tape, hb.output, hb.size, hb.block⟩))
           clear hb)
        | (go_at_call 23
           have hN := Q4.out
           clear hN
           refine (err_same pn _ (by exact Q4.out.pk.et)).mono ?_
           rintro e x5 ⟨rfl, hb⟩
           have Q5 := hid (Q4.out.step (by first | exact hb | exact ⟨hb.os, hb.tape, hb.output, hb.size, hb.block⟩))
           clear hb)
        | (go_at_call 27
           have hN := Q4.out
           clear hN
           refine (bytes_same (by exact Q4.out.b2.from_) (by exact Q4.out.b4.from_)).mono ?_
           rintro e xb ⟨rfl, rfl⟩)
        | (go_at_call 63
           have hN := Q3.out
           clear hN
           refine (HRM.out _).mono ?_
           rintro e x4 ⟨rfl, hb⟩
           have Q4 := hid (Q3.out.step (by first | exact hb | exact ⟨hb.os, hb.tape, hb.output, hb.size, hb.block⟩))
           clear hb)
        | (go_at_call 43
           have hN := Q2.out
           clear hN
           refine (HPl.out _).mono ?_
           rintro e x3 ⟨rfl, hb⟩
           have Q3 := hid (Q2.out.step (by first | exact hb | exact ⟨hb.os, hb.tape, hb.output, hb.size, hb.block⟩))
           clear hb)
        | (go_at_call 49
           have hN := Q1.out
           clear hN
           refine (HM.out _).mono ?_
           rintro e x2 ⟨rfl, hb⟩
           have Q2 := hid (Q1.out.step (by first | exact hb | exact ⟨hb.os, hb.tape, hb.output, hb.size, hb.block⟩))
           clear hb)
        | (go_at_call 58
           refine (gfirst_any _ (by exact Q0.out.pk.et)).mono ?_
           rintro e x1 ⟨rfl, hb⟩
           have Q1 := hid (Q0.out.step (by first | exact hb | exact ⟨hb.os, hb.tape, hb.output, hb.size, hb.block⟩))
           clear hb)
        | fail)
    all_goals
      go_wp2_with fail
      go_ret
      exact ⟨rfl, Q7.out.pk.bel⟩
end Go.Proofs.YtabklmkdneoaaaaDoor
