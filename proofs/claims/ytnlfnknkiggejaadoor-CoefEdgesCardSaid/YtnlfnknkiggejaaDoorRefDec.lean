/- The document's decoder: its functions. -/
import Derived.Test.YtnlfnknkiggejaaDoorRefSpec
import Derived.Test.YtnlfnknkiggejaaDoorRacNew
namespace Go.Proofs.YtnlfnknkiggejaaDoor
open Go.RowKit

def rdecCells (d : Dec) (g c : Nat) : Array Value := #[.slice (some ⟨g, 0, none⟩) d.bs.length c, .int .i64 (d.at_ : Nat), .int .i64 (d.off : Nat), .int .i64 (d.r : Nat)]
structure RDecAt (w : World) (b g c : Nat) (d : Dec) : Prop where
  blk : Blk w b 133 (rdecCells d g c)
  bys : Bys w g d.bs
  len : d.bs.length ≤ 1000000000000
theorem RDecAt.ne {w : World} {b g c : Nat} {d : Dec} (h : RDecAt w b g c d) : b ≠ g := by
  obtain ⟨cs, hb, _⟩ := h.bys
  exact h.blk.apart hb (by decide)
def RDecPart (w0 : World) (b g c : Nat) (d : Dec) (W : World) : Prop := RDecAt W b g c d ∧ Only (· = b) w0 W

set_option maxRecDepth 100000 in
set_option maxHeartbeats 400000 in
theorem rnext_in (b g n c k d r v : Nat) (w : World) (hb : Blk w b 133 #[.slice (some ⟨g, 0, none⟩) n c, .int .i64 k, .int .i64 d, .int .i64 r])
    (hx : w.cell? ⟨g, k, none⟩ = some (.int .u8 v)) (hv : v < 256) (hk : k < n) (hn : n ≤ 1000000000000) (hd : d ≤ 1099511627776) :
    Calls Tryd.prog 93 #[.pointer (some ⟨b, 0, none⟩)] w fun e w' => e = .returned (.tuple #[]) ∧ ∃ m, w' = ((w.setCell ⟨b, 1, none⟩ (.int .i64 (k + 1 : Nat))).setCell ⟨b, 2, none⟩ (.int .i64 (min (d * 256 + v : Nat) 1099511627776 : Nat))).drewN m := by
  have h0 := hb.cell 0
  have h1 := hb.cell 1
  have h2 := hb.cell 2
  have f1 := hb.frozen 1
  have f2 := hb.frozen 2
  simp at h0 h1 h2
  have k0 : (0 : Int) ≤ (k : Int) := by omega
  have k1 : (k : Int) < (n : Int) := by omega
  clear hb
  have hm : min ((d : Int) * 256 + (v : Int)) 1099511627776 = ((min (d * 256 + v) 1099511627776 : Nat) : Int) := by omega
  have M := hid hm
  clear hm
  go_enter Tryd.func93, Tryd.ntmps93
  go_wp2
  go_quiet (fail)
  go_wp2
  go_quiet (fail)
  go_wp2
  go_end0
  refine ⟨rfl, ?_⟩
  rw [M.out]
  exact ⟨_, rfl⟩
set_option maxRecDepth 100000 in
set_option maxHeartbeats 400000 in
theorem rnext_out (b g n c k d r : Nat) (w : World) (hb : Blk w b 133 #[.slice (some ⟨g, 0, none⟩) n c, .int .i64 k, .int .i64 d, .int .i64 r])
    (hk : n ≤ k) (hn : k ≤ 1000000000000) (hd : d ≤ 1099511627776) :
    Calls Tryd.prog 93 #[.pointer (some ⟨b, 0, none⟩)] w fun e w' => e = .returned (.tuple #[]) ∧ ∃ m, w' = ((w.setCell ⟨b, 1, none⟩ (.int .i64 (k + 1 : Nat))).setCell ⟨b, 2, none⟩ (.int .i64 (min (d * 256 + 0 : Nat) 1099511627776 : Nat))).drewN m := by
  have h0 := hb.cell 0
  have h1 := hb.cell 1
  have h2 := hb.cell 2
  have f1 := hb.frozen 1
  have f2 := hb.frozen 2
  simp at h0 h1 h2
  have k0 : (0 : Int) ≤ (k : Int) := by omega
  have k1 : (n : Int) ≤ (k : Int) := by omega
  clear hb
  have hm : min ((d : Int) * 256) 1099511627776 = ((min (d * 256 + 0) 1099511627776 : Nat) : Int) := by omega
  have M := hid hm
  clear hm
  go_enter Tryd.func93, Tryd.ntmps93
  go_wp2
  go_quiet (fail)
  go_wp2
  go_end0
  refine ⟨rfl, ?_⟩
  rw [M.out]
  exact ⟨_, rfl⟩
theorem rnext_any (b g c : Nat) (d : Dec) (w : World) (h : RDecAt w b g c d) (hk : d.at_ ≤ 1000000000000) (hd : d.off ≤ 1099511627776) :
    Calls Tryd.prog 93 #[.pointer (some ⟨b, 0, none⟩)] w fun e w' => e = .returned (.tuple #[]) ∧ RDecPart w b g c d.rnext w' := by
  obtain ⟨bs, k, off, r⟩ := d
  have fin : ∀ (m : Nat), RDecPart w b g c (Dec.rnext ⟨bs, k, off, r⟩) (((w.setCell ⟨b, 1, none⟩ (.int .i64 (k + 1 : Nat))).setCell ⟨b, 2, none⟩ (.int .i64 (min (off * 256 + byteAt bs k : Nat) 1099511627776 : Nat))).drewN m) := by
    intro m
    have ho : Only (· = b) w (((w.setCell ⟨b, 1, none⟩ (.int .i64 (k + 1 : Nat))).setCell ⟨b, 2, none⟩ (.int .i64 (min (off * 256 + byteAt bs k : Nat) 1099511627776 : Nat))).drewN m) := ((((Only.refl _ w).put (by rfl) 1 _).put (by rfl) 2 _)).drewN m
    refine ⟨⟨?_, h.bys.only ho h.ne.symm, h.len⟩, ho⟩
    have := ((h.blk.put 1 (.int .i64 (k + 1 : Nat))).put 2 (.int .i64 (min (off * 256 + byteAt bs k : Nat) 1099511627776 : Nat))).drewN m
    simpa [rdecCells, Dec.rnext] using this
  by_cases hlt : k < bs.length
  · refine (rnext_in b g bs.length c k off r (byteAt bs k) w h.blk (h.bys.cell k hlt) (byteAt_lt _ _) hlt h.len hd).mono ?_
    rintro e w' ⟨rfl, m, rfl⟩
    exact ⟨rfl, fin m⟩
  · refine (rnext_out b g bs.length c k off r w h.blk (by omega) hk hd).mono ?_
    rintro e w' ⟨rfl, m, rfl⟩
    have := fin m
    rw [byteAt_past _ _ (by omega)] at this
    exact ⟨rfl, this⟩

def RDecLoop (w0 : World) (b g c : Nat) (fin : Dec) (k : Nat) (wr : World) : Prop :=
  ∃ bs at_ off r, RDecAt wr b g c ⟨bs, at_, off, r⟩ ∧ Only (· = b) w0 wr ∧ Dec.rnorm k ⟨bs, at_, off, r⟩ = fin ∧ lowR k ≤ r ∧ r ≤ 4294967295 ∧ off ≤ 1099511627776 ∧ at_ + k ≤ 1000000000000

theorem rdec_r {w : World} {b g c : Nat} {bs : List UInt8} {at_ off r : Nat} (h : RDecAt w b g c ⟨bs, at_, off, r⟩) (r' : Nat) : RDecAt (w.setCell ⟨b, 3, none⟩ (.int .i64 (r' : Nat))) b g c ⟨bs, at_, off, r'⟩ :=
  ⟨by simpa [rdecCells] using h.blk.put 3 (.int .i64 (r' : Nat)), h.bys.only (S := (· = b)) ((Only.refl _ w).put (by rfl) 3 _) h.ne.symm, h.len⟩
theorem rdec_off {w : World} {b g c : Nat} {bs : List UInt8} {at_ off r : Nat} (h : RDecAt w b g c ⟨bs, at_, off, r⟩) (o : Nat) : RDecAt (w.setCell ⟨b, 2, none⟩ (.int .i64 (o : Nat))) b g c ⟨bs, at_, o, r⟩ :=
  ⟨by simpa [rdecCells] using h.blk.put 2 (.int .i64 (o : Nat)), h.bys.only (S := (· = b)) ((Only.refl _ w).put (by rfl) 2 _) h.ne.symm, h.len⟩

set_option maxRecDepth 100000 in
set_option maxHeartbeats 400000 in
theorem rdec_narrow (b g c v : Nat) (bs : List UInt8) (at_ off r : Nat) (w : World) (hd : RDecAt w b g c ⟨bs, at_, off, r⟩) (hat : at_ ≤ 1000000000) (hv1 : 1 ≤ v) (hv2 : v < r) (hof : off ≤ 1099511627776) (hr : r ≤ 4294967295) :
    Calls Tryd.prog 100 #[.pointer (some ⟨b, 0, none⟩), .int .i64 v] w fun e w' => e = .returned (.bool (Dec.bit ⟨bs, at_, off, r⟩ v)) ∧ RDecPart w b g c (Dec.rnarrow ⟨bs, at_, off, r⟩ v) w' := by
  have h2 := hd.blk.cell 2
  have h3 := hd.blk.cell 3
  have f2 := hd.blk.frozen 2
  have f3 := hd.blk.frozen 3
  simp [rdecCells] at h2 h3
  have D := hid hd
  clear hd
  go_enter Tryd.func100, Tryd.ntmps100
  go_upto_if 12 with fail
  go_cut [] (fun W => RDecPart w b g c (Dec.part ⟨bs, at_, off, r⟩ v) W)
  case first =>
    by_cases hv : v ≤ off
    · have e1 : ((off : Int) - (v : Int)) = ((off - v : Nat) : Int) := by omega
      have e2 : ((r : Int) - (v : Int)) = ((r - v : Nat) : Int) := by omega
      have A := hid (And.intro e1 e2)
      clear e1 e2
      have hvi : (v : Int) ≤ (off : Int) := by omega
      go_wp2_with fail
      go_meet
      rw [A.out.1, A.out.2]
      refine ⟨?_, ((Only.refl _ w).put (by rfl) 2 _).put (by rfl) 3 _⟩
      have := rdec_r (rdec_off D.out (off - v)) (r - v)
      simpa [Dec.part, hv] using this
    · have hvi : (off : Int) < (v : Int) := by omega
      go_wp2_with fail
      go_meet
      refine ⟨?_, (Only.refl _ w).put (by rfl) 3 _⟩
      have := rdec_r D.out v
      simpa [Dec.part, hv] using this
  case rest =>
    clear h2 h3 f2 f3
    have hp : ∃ o r', Dec.part ⟨bs, at_, off, r⟩ v = ⟨bs, at_, o, r'⟩ ∧ 1 ≤ r' ∧ r' ≤ 4294967295 ∧ o ≤ 1099511627776 := by
      by_cases hv : v ≤ off
      · exact ⟨off - v, r - v, by simp [Dec.part, hv], by omega, by omega, by omega⟩
      · exact ⟨off, v, by simp [Dec.part, hv], by omega, by omega, by omega⟩
    have C := hid (And.intro hcut hp)
    clear hcut hp
    go_wp2_with fail
    go_loopg [] 3 (fun k wr => RDecLoop w b g c (Dec.rnarrow ⟨bs, at_, off, r⟩ v) k wr)
    case atStart =>
      obtain ⟨⟨hd, ho⟩, o, r', e, h1, h2, h3⟩ := C.out
      rw [e] at hd
      refine ⟨bs, at_, o, r', hd, ho, ?_, h1, h2, h3, by omega⟩
      unfold Dec.rnarrow
      rw [e]
    case round =>
      clear C D
      obtain ⟨bs, at_, off, r, hd, ho, hn, hr1, hr2, hof, hat⟩ := hrel
      have h3 := hd.blk.cell 3
      have f3 := hd.blk.frozen 3
      simp [rdecCells] at h3
      have H := hid (And.intro hd (And.intro ho hn))
      have B := hid hr1
      clear hd ho hn hr1
      by_cases hlt : r < 16777216
      · have hlt' : decide ((r : Int) < 16777216) = true := by simp; omega
        have L := hid hlt
        have e3 : ((r : Int) * 256) = ((r * 256 : Nat) : Int) := by omega
        have E3 := hid e3
        have hrb : (r : Int) * 256 ≤ 4294967295 := by omega
        have hrb0 : 0 ≤ (r : Int) * 256 := by omega
        have ws : IntKind.i64.wrap ((r : Int) * 256) = (r : Int) * 256 := IntWalk.i64_in _ (by omega)
        clear e3 hlt
        go_wp2_with fail
        rw [E3.out]
        refine (rnext_any b g c ⟨bs, at_, off, r * 256⟩ _ (rdec_r H.out.1 (r * 256)) (by show at_ ≤ _; omega) hof).mono ?_
        rintro e w' ⟨rfl, hp⟩
        have P := hid hp
        clear hp
        go_wp2_with fail
        obtain ⟨hd, ho, hn⟩ := H.out
        obtain ⟨k, rfl⟩ : ∃ k, gk = k + 1 := by
          cases gk with
          | zero => exact absurd B.out (by have := L.out; simp only [lowR]; omega)
          | succ k => exact ⟨k, rfl⟩
        go_roundg k
        case measure => omega
        case rel =>
          refine ⟨bs, at_ + 1, min (off * 256 + byteAt bs at_) 1099511627776, r * 256, P.out.1, (ho.put (by rfl) 3 _).trans P.out.2, ?_, lowR_next B.out, by omega, by omega, by omega⟩
          rw [← hn]
          simp [Dec.rnorm, L.out, Dec.rstep]
      · have hge : decide ((r : Int) < 16777216) = false := by simp; omega
        have L := hid hlt
        clear hlt
        go_wp2
        go_ret
        obtain ⟨hd, ho, hn⟩ := H.out
        refine ⟨rfl, ?_, ho⟩
        rw [← hn]
        cases gk with
        | zero => exact hd
        | succ k => rw [Dec.rnorm, if_neg L.out]; exact hd

theorem rdec_narrow_at (b g c v : Nat) (x : Int) (hx : x = (v : Nat)) (d : Dec) (w : World) (hd : RDecAt w b g c d) (ho : d.ROk 1000000000) (hv1 : 1 ≤ v) (hv2 : v < d.r) :
    Calls Tryd.prog 100 #[.pointer (some ⟨b, 0, none⟩), .int .i64 x] w fun e w' => e = .returned (.bool (d.bit v)) ∧ RDecPart w b g c (d.rnarrow v) w' := by
  subst hx
  obtain ⟨bs, at_, off, r⟩ := d
  exact rdec_narrow b g c v bs at_ off r w hd ho.at_ hv1 hv2 ho.off ho.r1

set_option maxHeartbeats 400000 in
theorem rdec_flat (b g c : Nat) (d : Dec) (w : World) (hd : RDecAt w b g c d) (ho : d.ROk 1000000000) :
    Calls Tryd.prog 89 #[.pointer (some ⟨b, 0, none⟩)] w fun e w' => e = .returned (.bool (d.bit (d.r / 2))) ∧ RDecPart w b g c (d.rnarrow (d.r / 2)) w' := by
  have h3 := hd.blk.cell 3
  simp [rdecCells] at h3
  have D := hid (And.intro hd ho)
  have hr0 := ho.r0
  have hr1 := ho.r1
  clear hd ho
  generalize hr : d.r = r at *
  have R := hid hr
  clear hr
  have B := hid (And.intro hr0 hr1)
  go_enter Tryd.func89, Tryd.ntmps89
  go_wp2_with fail
  refine (rdec_narrow_at b g c (r / 2) _ (by omega) d _ D.out.1 D.out.2 (by have := B.out; omega) (by rw [R.out]; have := B.out; omega)).mono ?_
  rintro e w' ⟨rfl, hp⟩
  have P := hid hp
  clear hp
  go_wp2
  go_ret
  exact ⟨rfl, P.out⟩

set_option maxHeartbeats 400000 in
theorem rdec_over (b g c : Nat) (d : Dec) (w : World) (hd : RDecAt w b g c d) (hat : d.at_ ≤ 1000000000) :
    Calls Tryd.prog 30 #[.pointer (some ⟨b, 0, none⟩)] w fun e w' => e = .returned (.int .i64 (d.at_ - d.bs.length : Nat)) ∧ ∃ m, w' = w.drewN m := by
  have h0 := hd.blk.cell 0
  have h1 := hd.blk.cell 1
  simp [rdecCells] at h0 h1
  have hl := hd.len
  clear hd
  generalize d.bs.length = n at *
  generalize d.at_ = k at *
  go_enter Tryd.func30, Tryd.ntmps30
  go_wp2
  go_quiet (fail)
  go_wp2
  go_ret
  refine ⟨?_, _, rfl⟩
  show Ending.returned (.int .i64 _) = _
  congr 2
  omega
end Go.Proofs.YtnlfnknkiggejaaDoor
