/- Parts: XRefDec, XRefDecMore. -/
import Derived.Test.YtkkgpdejmcpcpaaGreatDoorM03
import Derived.Test.YtkkgpdejmcpcpaaGreatDoorM07
/- The document's decoder: its functions. -/
namespace Go.Proofs.YtkkgpdejmcpcpaaGreatDoor
open Go.RowKit

def rdecCells (d : Dec) (g c : Nat) : Array Value := #[.slice (some ⟨g, 0, none⟩) d.bs.length c, .int .i64 (d.at_ : Nat), .int .i64 (d.off : Nat), .int .i64 (d.r : Nat)]
structure RDecAt (w : World) (b g c : Nat) (d : Dec) : Prop where
  blk : Blk w b 117 (rdecCells d g c)
  bys : Bys w g d.bs
  len : d.bs.length ≤ 1000000000000
theorem RDecAt.ne {w : World} {b g c : Nat} {d : Dec} (h : RDecAt w b g c d) : b ≠ g := by
  obtain ⟨cs, hb, _⟩ := h.bys
  exact h.blk.apart hb (by decide)
def RDecPart (w0 : World) (b g c : Nat) (d : Dec) (W : World) : Prop := RDecAt W b g c d ∧ Only (· = b) w0 W

set_option maxRecDepth 100000 in
set_option maxHeartbeats 400000 in
theorem rnext_in (b g n c k d r v : Nat) (w : World) (hb : Blk w b 117 #[.slice (some ⟨g, 0, none⟩) n c, .int .i64 k, .int .i64 d, .int .i64 r])
    (hx : w.cell? ⟨g, k, none⟩ = some (.int .u8 v)) (hv : v < 256) (hk : k < n) (hn : n ≤ 1000000000000) (hd : d ≤ 1099511627776) :
    Calls Tryz.prog 75 #[.pointer (some ⟨b, 0, none⟩)] w fun e w' => e = .returned (.tuple #[]) ∧ ∃ m, w' = ((w.setCell ⟨b, 1, none⟩ (.int .i64 (k + 1 : Nat))).setCell ⟨b, 2, none⟩ (.int .i64 (min (d * 256 + v : Nat) 1099511627776 : Nat))).drewN m := by
  have h0 := hb.cell 0
  have h1 := hb.cell 1
  have h2 := hb.cell 2
  have f1 := hb.frozen 1
  have f2 := hb.frozen 2
  simp at h0 h1 h2
  have k0 : (0 : Int) ≤ (k : Int) := by omega
  have k1 : (k : Int) < (n : Int) := by omega
  clear hb
  have hm : min ((d : Int) * 256 + (v : Int)) 1099511627776 = ((min (d * 256 + v) 1099511627776 : Nat) : Int) := by omega
  have M := hid hm
  clear hm
  go_enter Tryz.func75, Tryz.ntmps75
  go_wp2
  go_quiet (fail)
  go_wp2
  go_quiet (fail)
  go_wp2
  go_end0
  refine ⟨rfl, ?_⟩
  rw [M.out]
  exact ⟨_, rfl⟩
set_option maxRecDepth 100000 in
set_option maxHeartbeats 400000 in
theorem rnext_out (b g n c k d r : Nat) (w : World) (hb : Blk w b 117 #[.slice (some ⟨g, 0, none⟩) n c, .int .i64 k, .int .i64 d, .int .i64 r])
    (hk : n ≤ k) (hn : k ≤ 1000000000000) (hd : d ≤ 1099511627776) :
    Calls Tryz.prog 75 #[.pointer (some ⟨b, 0, none⟩)] w fun e w' => e = .returned (.tuple #[]) ∧ ∃ m, w' = ((w.setCell ⟨b, 1, none⟩ (.int .i64 (k + 1 : Nat))).setCell ⟨b, 2, none⟩ (.int .i64 (min (d * 256 + 0 : Nat) 1099511627776 : Nat))).drewN m := by
  have h0 := hb.cell 0
  have h1 := hb.cell 1
  have h2 := hb.cell 2
  have f1 := hb.frozen 1
  have f2 := hb.frozen 2
  simp at h0 h1 h2
  have k0 : (0 : Int) ≤ (k : Int) := by omega
  have k1 : (n : Int) ≤ (k : Int) := by omega
  clear hb
  have hm : min ((d : Int) * 256) 1099511627776 = ((min (d * 256 + 0) 1099511627776 : Nat) : Int) := by omega
  have M := hid hm
  clear hm
  go_enter Tryz.func75, Tryz.ntmps75
  go_wp2
  go_quiet (fail)
  go_wp2
  go_end0
  refine ⟨rfl, ?_⟩
  rw [M.out]
  exact ⟨_, rfl⟩
theorem rnext_any (b g c : Nat) (d : Dec) (w : World) (h : RDecAt w b g c d) (hk : d.at_ ≤ 1000000000000) (hd : d.off ≤ 1099511627776) :
    Calls Tryz.prog 75 #[.pointer (some ⟨b, 0, none⟩)] w fun e w' => e = .returned (.tuple #[]) ∧ RDecPart w b g c d.rnext w' := by
  obtain ⟨bs, k, off, r⟩ := d
  have fin : ∀ (m : Nat), RDecPart w b g c (Dec.rnext ⟨bs, k, off, r⟩) (((w.setCell ⟨b, 1, none⟩ (.int .i64 (k + 1 : Nat))).setCell ⟨b, 2, none⟩ (.int .i64 (min (off * 256 + byteAt bs k : Nat) 1099511627776 : Nat))).drewN m) := by
    intro m
    have ho : Only (· = b) w (((w.setCell ⟨b, 1, none⟩ (.int .i64 (k + 1 : Nat))).setCell ⟨b, 2, none⟩ (.int .i64 (min (off * 256 + byteAt bs k : Nat) 1099511627776 : Nat))).drewN m) := ((((Only.refl _ w).put (by rfl) 1 _).put (by rfl) 2 _)).drewN m
    refine ⟨⟨?_, h.bys.only ho h.ne.symm, h.len⟩, ho⟩
    have := ((h.blk.put 1 (.int .i64 (k + 1 : Nat))).put 2 (.int .i64 (min (off * 256 + byteAt bs k : Nat) 1099511627776 : Nat))).drewN m
    simpa [rdecCells, Dec.rnext] using this
  by_cases hlt : k < bs.length
  · refine (rnext_in b g bs.length c k off r (byteAt bs k) w h.blk (h.bys.cell k hlt) (byteAt_lt _ _) hlt h.len hd).mono ?_
    rintro e w' ⟨rfl, m, rfl⟩
    exact ⟨rfl, fin m⟩
  · refine (rnext_out b g bs.length c k off r w h.blk (by omega) hk hd).mono ?_
    rintro e w' ⟨rfl, m, rfl⟩
    have := fin m
    rw [byteAt_past _ _ (by omega)] at this
    exact ⟨rfl, this⟩

def RDecLoop (w0 : World) (b g c : Nat) (fin : Dec) (k : Nat) (wr : World) : Prop :=
  ∃ bs at_ off r, RDecAt wr b g c ⟨bs, at_, off, r⟩ ∧ Only (· = b) w0 wr ∧ Dec.rnorm k ⟨bs, at_, off, r⟩ = fin ∧ lowR k ≤ r ∧ r ≤ 4294967295 ∧ off ≤ 1099511627776 ∧ at_ + k ≤ 1000000000000

theorem rdec_r {w : World} {b g c : Nat} {bs : List UInt8} {at_ off r : Nat} (h : RDecAt w b g c ⟨bs, at_, off, r⟩) (r' : Nat) : RDecAt (w.setCell ⟨b, 3, none⟩ (.int .i64 (r' : Nat))) b g c ⟨bs, at_, off, r'⟩ :=
  ⟨by simpa [rdecCells] using h.blk.put 3 (.int .i64 (r' : Nat)), h.bys.only (S := (· = b)) ((Only.refl _ w).put (by rfl) 3 _) h.ne.symm, h.len⟩
theorem rdec_off {w : World} {b g c : Nat} {bs : List UInt8} {at_ off r : Nat} (h : RDecAt w b g c ⟨bs, at_, off, r⟩) (o : Nat) : RDecAt (w.setCell ⟨b, 2, none⟩ (.int .i64 (o : Nat))) b g c ⟨bs, at_, o, r⟩ :=
  ⟨by simpa [rdecCells] using h.blk.put 2 (.int .i64 (o : Nat)), h.bys.only (S := (· = b)) ((Only.refl _ w).put (by rfl) 2 _) h.ne.symm, h.len⟩

set_option maxRecDepth 100000 in
set_option maxHeartbeats 400000 in
theorem rdec_narrow (b g c v : Nat) (bs : List UInt8) (at_ off r : Nat) (w : World) (hd : RDecAt w b g c ⟨bs, at_, off, r⟩) (hat : at_ ≤ 1000000000) (hv1 : 1 ≤ v) (hv2 : v < r) (hof : off ≤ 1099511627776) (hr : r ≤ 4294967295) :
    Calls Tryz.prog 97 #[.pointer (some ⟨b, 0, none⟩), .int .i64 v] w fun e w' => e = .returned (.bool (Dec.bit ⟨bs, at_, off, r⟩ v)) ∧ RDecPart w b g c (Dec.rnarrow ⟨bs, at_, off, r⟩ v) w' := by
  have h2 := hd.blk.cell 2
  have h3 := hd.blk.cell 3
  have f2 := hd.blk.frozen 2
  have f3 := hd.blk.frozen 3
  simp [rdecCells] at h2 h3
  have D := hid hd
  clear hd
  go_enter Tryz.func97, Tryz.ntmps97
  go_upto_if 12 with fail
  go_cut [] (fun W => RDecPart w b g c (Dec.part ⟨bs, at_, off, r⟩ v) W)
  case first =>
    by_cases hv : v ≤ off
    · have e1 : ((off : Int) - (v : Int)) = ((off - v : Nat) : Int) := by omega
      have e2 : ((r : Int) - (v : Int)) = ((r - v : Nat) : Int) := by omega
      have A := hid (And.intro e1 e2)
      clear e1 e2
      have hvi : (v : Int) ≤ (off : Int) := by omega
      go_wp2_with fail
      go_meet
      rw [A.out.1, A.out.2]
      refine ⟨?_, ((Only.refl _ w).put (by rfl) 2 _).put (by rfl) 3 _⟩
      have := rdec_r (rdec_off D.out (off - v)) (r - v)
      simpa [Dec.part, hv] using this
    · have hvi : (off : Int) < (v : Int) := by omega
      go_wp2_with fail
      go_meet
      refine ⟨?_, (Only.refl _ w).put (by rfl) 3 _⟩
      have := rdec_r D.out v
      simpa [Dec.part, hv] using this
  case rest =>
    clear h2 h3 f2 f3
    have hp : ∃ o r', Dec.part ⟨bs, at_, off, r⟩ v = ⟨bs, at_, o, r'⟩ ∧ 1 ≤ r' ∧ r' ≤ 4294967295 ∧ o ≤ 1099511627776 := by
      by_cases hv : v ≤ off
      · exact ⟨off - v, r - v, by simp [Dec.part, hv], by omega, by omega, by omega⟩
      · exact ⟨off, v, by simp [Dec.part, hv], by omega, by omega, by omega⟩
    have C := hid (And.intro hcut hp)
    clear hcut hp
    go_wp2_with fail
    go_loopg [] 3 (fun k wr => RDecLoop w b g c (Dec.rnarrow ⟨bs, at_, off, r⟩ v) k wr)
    case atStart =>
      obtain ⟨⟨hd, ho⟩, o, r', e, h1, h2, h3⟩ := C.out
      rw [e] at hd
      refine ⟨bs, at_, o, r', hd, ho, ?_, h1, h2, h3, by omega⟩
      unfold Dec.rnarrow
      rw [e]
    case round =>
      clear C D
      obtain ⟨bs, at_, off, r, hd, ho, hn, hr1, hr2, hof, hat⟩ := hrel
      have h3 := hd.blk.cell 3
      have f3 := hd.blk.frozen 3
      simp [rdecCells] at h3
      have H := hid (And.intro hd (And.intro ho hn))
      have B := hid hr1
      clear hd ho hn hr1
      by_cases hlt : r < 16777216
      · have hlt' : decide ((r : Int) < 16777216) = true := by simp; omega
        have L := hid hlt
        have e3 : ((r : Int) * 256) = ((r * 256 : Nat) : Int) := by omega
        have E3 := hid e3
        have hrb : (r : Int) * 256 ≤ 4294967295 := by omega
        have hrb0 : 0 ≤ (r : Int) * 256 := by omega
        have ws : IntKind.i64.wrap ((r : Int) * 256) = (r : Int) * 256 := IntWalk.i64_in _ (by omega)
        clear e3 hlt
        go_wp2_with fail
        rw [E3.out]
        refine (rnext_any b g c ⟨bs, at_, off, r * 256⟩ _ (rdec_r H.out.1 (r * 256)) (by show at_ ≤ _; omega) hof).mono ?_
        rintro e w' ⟨rfl, hp⟩
        have P := hid hp
        clear hp
        go_wp2_with fail
        obtain ⟨hd, ho, hn⟩ := H.out
        obtain ⟨k, rfl⟩ : ∃ k, gk = k + 1 := by
          cases gk with
          | zero => exact absurd B.out (by have := L.out; simp only [lowR]; omega)
          | succ k => exact ⟨k, rfl⟩
        go_roundg k
        case measure => omega
        case rel =>
          refine ⟨bs, at_ + 1, min (off * 256 + byteAt bs at_) 1099511627776, r * 256, P.out.1, (ho.put (by rfl) 3 _).trans P.out.2, ?_, lowR_next B.out, by omega, by omega, by omega⟩
          rw [← hn]
          simp [Dec.rnorm, L.out, Dec.rstep]
      · have hge : decide ((r : Int) < 16777216) = false := by simp; omega
        have L := hid hlt
        clear hlt
        go_wp2
        go_ret
        obtain ⟨hd, ho, hn⟩ := H.out
        refine ⟨rfl, ?_, ho⟩
        rw [← hn]
        cases gk with
        | zero => exact hd
        | succ k => rw [Dec.rnorm, if_neg L.out]; exact hd

theorem rdec_narrow_at (b g c v : Nat) (x : Int) (hx : x = (v : Nat)) (d : Dec) (w : World) (hd : RDecAt w b g c d) (ho : d.ROk 1000000000) (hv1 : 1 ≤ v) (hv2 : v < d.r) :
    Calls Tryz.prog 97 #[.pointer (some ⟨b, 0, none⟩), .int .i64 x] w fun e w' => e = .returned (.bool (d.bit v)) ∧ RDecPart w b g c (d.rnarrow v) w' := by
  subst hx
  obtain ⟨bs, at_, off, r⟩ := d
  exact rdec_narrow b g c v bs at_ off r w hd ho.at_ hv1 hv2 ho.off ho.r1

set_option maxHeartbeats 400000 in
theorem rdec_flat (b g c : Nat) (d : Dec) (w : World) (hd : RDecAt w b g c d) (ho : d.ROk 1000000000) :
    Calls Tryz.prog 85 #[.pointer (some ⟨b, 0, none⟩)] w fun e w' => e = .returned (.bool (d.bit (d.r / 2))) ∧ RDecPart w b g c (d.rnarrow (d.r / 2)) w' := by
  have h3 := hd.blk.cell 3
  simp [rdecCells] at h3
  have D := hid (And.intro hd ho)
  have hr0 := ho.r0
  have hr1 := ho.r1
  clear hd ho
  generalize hr : d.r = r at *
  have R := hid hr
  clear hr
  have B := hid (And.intro hr0 hr1)
  go_enter Tryz.func85, Tryz.ntmps85
  go_wp2_with fail
  refine (rdec_narrow_at b g c (r / 2) _ (by omega) d _ D.out.1 D.out.2 (by have := B.out; omega) (by rw [R.out]; have := B.out; omega)).mono ?_
  rintro e w' ⟨rfl, hp⟩
  have P := hid hp
  clear hp
  go_wp2
  go_ret
  exact ⟨rfl, P.out⟩

set_option maxHeartbeats 400000 in
theorem rdec_over (b g c : Nat) (d : Dec) (w : World) (hd : RDecAt w b g c d) (hat : d.at_ ≤ 1000000000) :
    Calls Tryz.prog 21 #[.pointer (some ⟨b, 0, none⟩)] w fun e w' => e = .returned (.int .i64 (d.at_ - d.bs.length : Nat)) ∧ ∃ m, w' = w.drewN m := by
  have h0 := hd.blk.cell 0
  have h1 := hd.blk.cell 1
  simp [rdecCells] at h0 h1
  have hl := hd.len
  clear hd
  generalize d.bs.length = n at *
  generalize d.at_ = k at *
  go_enter Tryz.func21, Tryz.ntmps21
  go_wp2
  go_quiet (fail)
  go_wp2
  go_ret
  refine ⟨?_, _, rfl⟩
  show Ending.returned (.int .i64 _) = _
  congr 2
  omega
end Go.Proofs.YtkkgpdejmcpcpaaGreatDoor

/- The document's decoder: Code, NewDecoder; Fail. -/
namespace Go.Proofs.YtkkgpdejmcpcpaaGreatDoor
open Go.RowKit

def errV (c : Int) : Value := .agg #[.int .i64 c, .slice none 0 0]

theorem below_only {S : Nat → Prop} {w w' : World} (h : Below w.heap.size w w') : Only S w w' := ⟨h.os, h.tape, h.output, h.size, fun k hk _ => h.block k hk⟩

set_option maxHeartbeats 400000 in
theorem rdec_code_no (b : Nat) (p : Int) (w : World) (h : p < 1 ∨ 2047 < p) :
    Calls Tryz.prog 87 #[.pointer (some ⟨b, 0, none⟩), .int .i64 p] w fun e w' => e = .returned (.tuple #[.bool false, .agg #[.int .i64 3, .slice none 0 0]]) ∧ Below w.heap.size w w' := by
  have hx : (p < 1) ∨ (1 ≤ p ∧ 2047 < p) := by omega
  clear h
  rcases hx with h | ⟨h, h'⟩
  all_goals
    go_enter Tryz.func87, Tryz.ntmps87
    go_wp2_with fail
    refine (fail_any 3 _).mono ?_
    rintro e w' ⟨rfl, hb⟩
    have hz := hb.size
    have hc0 := hb.cell (p := ⟨w.heap.size, 0, none⟩) (by simp)
    have hc1 := hb.cell (p := ⟨w.heap.size, 1, none⟩) (by simp)
    have hf0 := hb.frozen (p := ⟨w.heap.size, 0, none⟩) (by simp)
    have hf1 := hb.frozen (p := ⟨w.heap.size, 1, none⟩) (by simp)
    simp at hc0 hc1 hf0 hf1 hz
    have B := hid hb
    clear hb
    go_wp2
    refine bodyPost_ret (v := .tuple #[.bool false, .agg #[.int .i64 3, .slice none 0 0]]) (by simp [results, Tryz.results87, go_sem, hc0, hc1]) rfl ⟨rfl, ?_⟩
    exact (((Below.refl _ w).alloc (Nat.le_refl _) _).trans (B.out.mono (by simp))).setCell (Nat.le_refl _) _ |>.setCell (Nat.le_refl _) _

set_option maxHeartbeats 400000 in
theorem rdec_code (b g c p : Nat) (d : Dec) (w : World) (hd : RDecAt w b g c d) (ho : d.ROk 1000000000) (h1 : 1 ≤ p) (h2 : p ≤ 2047) :
    Calls Tryz.prog 87 #[.pointer (some ⟨b, 0, none⟩), .int .i64 p] w fun e w' => e = .returned (.tuple #[.bool (d.bit (d.r / 2048 * p)), .agg #[.int .i64 0, .slice none 0 0]]) ∧ RDecPart w b g c (d.rnarrow (d.r / 2048 * p)) w' := by
  have h3 := hd.blk.cell 3
  simp [rdecCells] at h3
  have hbl := hd.blk.lt
  have hgl : g < w.heap.size := by obtain ⟨cs, hb, _⟩ := hd.bys; exact hb.lt
  have D := hid (And.intro hd ho)
  have hr0 := ho.r0
  have hr1 := ho.r1
  clear hd ho
  generalize hr : d.r = r at *
  have R := hid hr
  clear hr
  have B := hid (And.intro hr0 hr1)
  have hm : 1 ≤ r / 2048 * p ∧ r / 2048 * p < r := by
    have := B.out
    have hq : 8192 ≤ r / 2048 := by omega
    constructor
    · exact Nat.mul_pos (by omega) h1
    · have : r / 2048 * p ≤ r / 2048 * 2047 := Nat.mul_le_mul_left _ h2
      omega
  have M := hid hm
  clear hm
  have e : ((r : Int) / 2048 * (p : Int)) = ((r / 2048 * p : Nat) : Int) := by simp
  have hq0 : 0 ≤ ((r : Int) / 2048 * (p : Int)) := by rw [e]; omega
  have hq1 : ((r : Int) / 2048 * (p : Int)) ≤ 4294967295 := by have := M.out; rw [e]; omega
  clear e
  have D1 : RDecAt (w.alloc (.cells #[.int .i64 0, .slice none 0 0] 46)) b g c d := ⟨D.out.1.blk.alloc _, D.out.1.bys.only (S := fun _ => False) ((Only.refl _ w).alloc _) (fun h => h), D.out.1.len⟩
  have D2 := hid D1
  clear D1
  go_enter Tryz.func87, Tryz.ntmps87
  go_wp2_with fail
  refine (rdec_narrow_at b g c (r / 2048 * p) _ (by simp) d _ D2.out D.out.2 M.out.1 (by rw [R.out]; exact M.out.2)).mono ?_
  rintro e w' ⟨rfl, hp, ho⟩
  have hz := ho.size
  have hc0 := ho.cell (p := ⟨w.heap.size, 0, none⟩) (by simp) (by simp; omega)
  have hc1 := ho.cell (p := ⟨w.heap.size, 1, none⟩) (by simp) (by simp; omega)
  have hf0 := ho.frozen (p := ⟨w.heap.size, 0, none⟩) (by simp) (by simp; omega)
  have hf1 := ho.frozen (p := ⟨w.heap.size, 1, none⟩) (by simp) (by simp; omega)
  simp at hc0 hc1 hf0 hf1 hz
  have P := hid (And.intro hp ho)
  clear hp ho
  go_wp2
  refine bodyPost_ret (v := .tuple #[.bool (d.bit (r / 2048 * p)), .agg #[.int .i64 0, .slice none 0 0]]) (by simp [results, Tryz.results87, go_sem, hc0, hc1]) rfl ⟨rfl, ⟨?_, ?_, ?_⟩, ?_⟩
  · exact (P.out.1.blk.far (p := ⟨w.heap.size, 0, none⟩) (by simp; omega) _).far (p := ⟨w.heap.size, 1, none⟩) (by simp; omega) _
  · exact P.out.1.bys.only (S := (· = w.heap.size)) (((Only.refl _ w').put (by rfl) 0 _).put (by rfl) 1 _) (by omega)
  · exact P.out.1.len
  · exact (((Only.refl _ w).alloc _).trans P.out.2).setCell (fun h => absurd h (by simp)) _ |>.setCell (fun h => absurd h (by simp)) _

def RDecNew (w : World) (bs : List UInt8) (e : Ending) (w' : World) : Prop :=
  ∃ b g c, e = .returned (.pointer (some ⟨b, 0, none⟩)) ∧ RDecAt w' b g c (Dec.rnew bs) ∧ w.heap.size ≤ b ∧ w.heap.size ≤ g ∧ Below w.heap.size w w'

/-- i bytes more. -/
def rnexts : Nat → Dec → Dec
  | 0, d => d
  | i + 1, d => (rnexts i d).rnext
theorem rnexts_at (i : Nat) (d : Dec) : (rnexts i d).at_ = d.at_ + i ∧ (d.off ≤ 1099511627776 → (rnexts i d).off ≤ 1099511627776) := by
  induction i with
  | zero => exact ⟨rfl, fun h => h⟩
  | succ i ih => exact ⟨by simp only [rnexts, Dec.rnext, ih.1]; omega, fun _ => by simp only [rnexts, Dec.rnext]; omega⟩

set_option maxRecDepth 100000 in
set_option maxHeartbeats 400000 in
theorem rnew_decoder (x : Value) (bs : List UInt8) (w : World) (hx : From w 1 x bs.length (bs.map byteV)) (hl : bs.length ≤ 1000000000) :
    Calls Tryz.prog 50 #[x] w (RDecNew w bs) := by
  have X := hid hx
  clear hx
  go_enter Tryz.func50, Tryz.ntmps50
  go_wp2_with fail
  refine (copy_bytes x bs w X.out (by omega)).mono ?_
  rintro e w1 ⟨g, cap, rfl, hown, hb⟩
  have hw1 := hb.size
  have hg : w.heap.size ≤ g ∧ g < w1.heap.size := by
    rcases hown.2 with ⟨h1, _⟩ | ⟨g', c', cur, h1, h2, h3, _⟩
    · cases h1
    · injection h1 with h1
      injection h1 with h1
      injection h1 with h1
      subst h1
      exact ⟨h2, (Array.getElem?_eq_some_iff.1 h3).1⟩
  have hd0 : RDecAt (w1.alloc (.cells (rdecCells ⟨bs, 0, 0, 4294967295⟩ g cap) 117)) w1.heap.size g cap ⟨bs, 0, 0, 4294967295⟩ :=
    ⟨Blk.new _ _ _, (bys_of_own (base := w.heap.size) hown).only ((Only.refl (fun _ => False) w1).alloc _) (fun h => h), by show bs.length ≤ _; omega⟩
  have hb0 : Below w.heap.size w (w1.alloc (.cells (rdecCells ⟨bs, 0, 0, 4294967295⟩ g cap) 117)) := hb.alloc hw1 _
  generalize hbd : w1.heap.size = b at *
  have Z := hid (And.intro hd0 (And.intro hb0 (And.intro hg hw1)))
  clear hd0 hb0 hg hw1 hb hown X
  go_wp2_with fail
  go_loopg [4] 4 (fun k i wr => ∃ j : Nat, j + k = 4 ∧ i = .int .i64 j ∧ RDecAt wr b g cap (rnexts j ⟨bs, 0, 0, 4294967295⟩) ∧ Below w.heap.size w wr)
  case atStart => exact ⟨0, rfl, rfl, Z.out.1, Z.out.2.1⟩
  case round =>
    obtain ⟨j, hj, rfl, hd, hb⟩ := hrel
    have H := hid (And.intro hd hb)
    clear hd hb
    by_cases hlt : j < 4
    · go_wp2_with fail
      refine (rnext_any b g cap _ _ H.out.1 (by rw [(rnexts_at j _).1]; show 0 + j ≤ _; omega) ((rnexts_at j _).2 (Nat.zero_le _))).mono ?_
      rintro e w' ⟨rfl, hp, ho⟩
      have P := hid (And.intro hp ho)
      clear hp ho
      go_wp2_with fail
      go_roundg (gk - 1)
      case measure => omega
      case rel => exact ⟨j + 1, by omega, by go_num, P.out.1, H.out.2.trans ⟨P.out.2.os, P.out.2.tape, P.out.2.output, P.out.2.size, fun k hk => P.out.2.block k (by have := H.out.2.size; omega) (by have := Z.out.2.2.2; omega)⟩⟩
    · obtain rfl : j = 4 := by omega
      go_wp2
      go_ret
      exact ⟨b, g, cap, rfl, H.out.1, Z.out.2.2.2, Z.out.2.2.1.1, H.out.2⟩
end Go.Proofs.YtkkgpdejmcpcpaaGreatDoor

