/- Parts: XDecWalks, XSmall, XDecMore. -/
import Derived.Test.YtkkgpdejmcpcpaaGreatDoorProg
import Derived.Test.YtkkgpdejmcpcpaaGreatDoorM01
import Derived.Test.YtkkgpdejmcpcpaaGreatDoorM03
import Derived.Deep.QuietTactic
import Derived.Deep.RegionWith
import Derived.Deep.LoopGhost
import Derived.BigQuiet
import Derived.Deep.DeepCutAuto
import Derived.Lib.MinMax
import Derived.StillTailTactics
import Derived.RegionTactic
import Derived.ChangeAlike
/- The decoder's functions: next, narrow, Code, Flat, Over. -/
namespace Go.Proofs.YtkkgpdejmcpcpaaGreatDoor
open Go.RowKit

def Bys (w : World) (g : Nat) (bs : List UInt8) : Prop := ∃ cs, Blk w g 5 cs ∧ ∀ i, i < bs.length → cs[i]? = some (.int .u8 (byteAt bs i : Nat))
theorem Bys.cell {w : World} {g : Nat} {bs : List UInt8} (h : Bys w g bs) (i : Nat) (hi : i < bs.length) : w.cell? ⟨g, i, none⟩ = some (.int .u8 (byteAt bs i : Nat)) := by
  obtain ⟨cs, hb, hc⟩ := h
  rw [hb.cell]; exact hc i hi

def decCells (d : Dec) (g c : Nat) : Array Value := #[.slice (some ⟨g, 0, none⟩) d.bs.length c, .int .i64 (d.at_ : Nat), .int .u64 (d.off : Nat), .int .u64 (d.r : Nat)]
/-- A decoder at block b, its bytes in block g. -/
structure DecAt (w : World) (b g c : Nat) (d : Dec) : Prop where
  blk : Blk w b 146 (decCells d g c)
  bys : Bys w g d.bs
  len : d.bs.length ≤ 150000000000000

theorem DecAt.ne {w : World} {b g c : Nat} {d : Dec} (h : DecAt w b g c d) : b ≠ g := by
  obtain ⟨cs, hb, _⟩ := h.bys
  exact h.blk.apart hb (by decide)
theorem Bys.only {S : Nat → Prop} {w w' : World} {g : Nat} {bs : List UInt8} (h : Bys w g bs) (ho : Only S w w') (hg : ¬ S g) : Bys w' g bs := by
  obtain ⟨cs, hb, hc⟩ := h
  exact ⟨cs, hb.keep ho hg, hc⟩

set_option maxHeartbeats 400000 in
theorem next_in (b g n c k v : Nat) (o1 o2 : Value) (w : World) (hb : Blk w b 146 #[.slice (some ⟨g, 0, none⟩) n c, .int .i64 k, o1, o2])
    (hx : w.cell? ⟨g, k, none⟩ = some (.int .u8 v)) (hv : v < 256) (hk : k < n) (hn : n ≤ 150000000000000) :
    Calls Tryz.prog 74 #[.pointer (some ⟨b, 0, none⟩)] w fun e w' => e = .returned (.int .u64 v) ∧ ∃ m, w' = (w.setCell ⟨b, 1, none⟩ (.int .i64 (k + 1 : Nat))).drewN m := by
  have h0 := hb.cell 0
  have h1 := hb.cell 1
  have f1 := hb.frozen 1
  simp at h0 h1
  have k0 : (0 : Int) ≤ (k : Int) := by omega
  have k1 : (k : Int) < (n : Int) := by omega
  clear hb
  go_enter Tryz.func74, Tryz.ntmps74
  go_wp2
  go_quiet (fail)
  go_wp2
  go_quiet (fail)
  go_wp2
  go_ret
  exact ⟨rfl, _, rfl⟩
set_option maxHeartbeats 400000 in
theorem next_out (b g n c k : Nat) (o1 o2 : Value) (w : World) (hb : Blk w b 146 #[.slice (some ⟨g, 0, none⟩) n c, .int .i64 k, o1, o2])
    (hk : n ≤ k) (hn : k ≤ 150000000000000) :
    Calls Tryz.prog 74 #[.pointer (some ⟨b, 0, none⟩)] w fun e w' => e = .returned (.int .u64 (0 : Nat)) ∧ ∃ m, w' = (w.setCell ⟨b, 1, none⟩ (.int .i64 (k + 1 : Nat))).drewN m := by
  have h0 := hb.cell 0
  have h1 := hb.cell 1
  have f1 := hb.frozen 1
  simp at h0 h1
  have k0 : (0 : Int) ≤ (k : Int) := by omega
  have k1 : (n : Int) ≤ (k : Int) := by omega
  clear hb
  go_enter Tryz.func74, Tryz.ntmps74
  go_wp2
  go_quiet (fail)
  go_wp2
  go_ret
  exact ⟨rfl, _, rfl⟩
theorem next_any (b g c k : Nat) (bs : List UInt8) (o1 o2 : Value) (w : World) (hb : Blk w b 146 #[.slice (some ⟨g, 0, none⟩) bs.length c, .int .i64 k, o1, o2])
    (hx : Bys w g bs) (hk : k ≤ 150000000000000) (hn : bs.length ≤ 150000000000000) :
    Calls Tryz.prog 74 #[.pointer (some ⟨b, 0, none⟩)] w fun e w' => e = .returned (.int .u64 (byteAt bs k : Nat)) ∧ ∃ m, w' = (w.setCell ⟨b, 1, none⟩ (.int .i64 (k + 1 : Nat))).drewN m := by
  by_cases h : k < bs.length
  · exact next_in b g _ c k _ o1 o2 w hb (hx.cell k h) (byteAt_lt _ _) h hn
  · rw [byteAt_past _ _ (by omega)]
    exact next_out b g _ c k o1 o2 w hb (by omega) hk

def lowR : Nat → Nat
  | 0 => 16777216
  | 1 => 65536
  | 2 => 256
  | _ => 1
theorem lowR_next {k r : Nat} (h : lowR (k + 1) ≤ r) : lowR k ≤ r * 256 := by
  match k, h with
  | 0, h => simp only [lowR] at *; omega
  | 1, h => simp only [lowR] at *; omega
  | 2, h => simp only [lowR] at *; omega
  | k + 3, h => simp only [lowR] at *; omega

def DecLoop (w0 : World) (b g c : Nat) (fin : Dec) (k : Nat) (wr : World) : Prop :=
  ∃ bs at_ off r, DecAt wr b g c ⟨bs, at_, off, r⟩ ∧ Only (· = b) w0 wr ∧ Dec.norm k ⟨bs, at_, off, r⟩ = fin ∧ lowR k ≤ r ∧ r ≤ 4294967295 ∧ off ≤ r ∧ at_ + k ≤ 150000000000000

def DecPart (w0 : World) (b g c : Nat) (d : Dec) (W : World) : Prop := DecAt W b g c d ∧ Only (· = b) w0 W
set_option maxRecDepth 100000 in
set_option maxHeartbeats 400000 in
theorem dec_narrow (b g c v : Nat) (bs : List UInt8) (at_ off r : Nat) (w : World) (hd : DecAt w b g c ⟨bs, at_, off, r⟩) (hat : at_ ≤ 1000000000) (hv1 : 1 ≤ v) (hv2 : v < r) (hof : off ≤ r) (hr : r ≤ 4294967295) :
    Calls Tryz.prog 136 #[.pointer (some ⟨b, 0, none⟩), .int .u64 v] w fun e w' => e = .returned (.bool (Dec.bit ⟨bs, at_, off, r⟩ v)) ∧ DecPart w b g c (Dec.narrow ⟨bs, at_, off, r⟩ v) w' := by
  have h0 := hd.blk.cell 0
  have h1 := hd.blk.cell 1
  have h2 := hd.blk.cell 2
  have h3 := hd.blk.cell 3
  have f1 := hd.blk.frozen 1
  have f2 := hd.blk.frozen 2
  have f3 := hd.blk.frozen 3
  simp [decCells] at h0 h1 h2 h3
  have D := hid hd
  clear hd
  go_enter Tryz.func136, Tryz.ntmps136
  go_upto_if 12 with fail
  go_cut [] (fun W => DecPart w b g c (Dec.part ⟨bs, at_, off, r⟩ v) W)
  case first =>
    by_cases hv : v ≤ off
    · have e1 := sub_u64 (a := off) (b := v) hv (by omega)
      have e2 := sub_u64 (a := r) (b := v) (by omega) (by omega)
      go_wp2_with fail
      go_meet
      refine ⟨⟨?_, ?_, ?_⟩, ?_⟩
      · have := (D.out.blk.put 2 (.int .u64 (off - v : Nat))).put 3 (.int .u64 (r - v : Nat))
        simpa [decCells, Dec.part, hv] using this
      · refine Bys.only (S := (· = b)) ?_ (((Only.refl _ w).put (by rfl) 2 _).put (by rfl) 3 _) D.out.ne.symm
        simpa [Dec.part, hv] using D.out.bys
      · simpa [Dec.part, hv] using D.out.len
      · exact ((Only.refl _ w).put (by rfl) 2 _).put (by rfl) 3 _
    · go_wp2_with fail
      go_meet
      refine ⟨⟨?_, ?_, ?_⟩, ?_⟩
      · have := D.out.blk.put 3 (.int .u64 (v : Nat))
        simpa [decCells, Dec.part, hv] using this
      · refine Bys.only (S := (· = b)) ?_ ((Only.refl _ w).put (by rfl) 3 _) D.out.ne.symm
        simpa [Dec.part, hv] using D.out.bys
      · simpa [Dec.part, hv] using D.out.len
      · exact (Only.refl _ w).put (by rfl) 3 _
  case rest =>
    clear h0 h1 h2 h3 f1 f2 f3
    have C := hid hcut
    clear hcut
    have hp : ∃ o r', Dec.part ⟨bs, at_, off, r⟩ v = ⟨bs, at_, o, r'⟩ ∧ 1 ≤ r' ∧ r' ≤ 4294967295 ∧ o ≤ r' := by
      by_cases hv : v ≤ off
      · exact ⟨off - v, r - v, by simp [Dec.part, hv], by omega, by omega, by omega⟩
      · exact ⟨off, v, by simp [Dec.part, hv], by omega, by omega, by omega⟩
    have P := hid hp
    clear hp
    go_wp2_with fail
    go_loopg [] 3 (fun k wr => DecLoop w b g c (Dec.narrow ⟨bs, at_, off, r⟩ v) k wr)
    case atStart =>
      obtain ⟨o, r', e, h1, h2, h3⟩ := P.out
      obtain ⟨hd, ho⟩ := C.out
      rw [e] at hd
      refine ⟨bs, at_, o, r', hd, ho, ?_, h1, h2, h3, by omega⟩
      unfold Dec.narrow
      rw [e]
    case round =>
      clear C P D
      obtain ⟨bs, at_, off, r, hd, ho, hn, hr1, hr2, hof, hat⟩ := hrel
      have h0 := hd.blk.cell 0
      have h1 := hd.blk.cell 1
      have h2 := hd.blk.cell 2
      have h3 := hd.blk.cell 3
      have f1 := hd.blk.frozen 1
      have f2 := hd.blk.frozen 2
      have f3 := hd.blk.frozen 3
      simp [decCells] at h0 h1 h2 h3
      have H := hid (And.intro hd (And.intro ho hn))
      clear hd ho hn
      by_cases hlt : r < 16777216
      · have B := hid (And.intro hr1 hlt)
        have hlt' : ((r : Int) < 16777216) := by omega
        clear hr1 hlt
        have e3 := shl8_u64 (a := off) (by omega)
        have e4 := shl8_u64 (a := r) (by omega)
        have e5 := or8_u64 (a := off) (v := byteAt bs at_) (by omega) (byteAt_lt _ _)
        go_wp2
        go_cut [] (fun W => Blk W b 146 #[.slice (some ⟨g, 0, none⟩) bs.length c, .int .i64 (at_ + 1 : Nat), .int .u64 (off * 256 + byteAt bs at_ : Nat), .int .u64 r] ∧ Only (· = b) wr W)
        case first =>
          go_region_with (go_at_call 74; refine (next_any b g c at_ bs (.int .u64 off) (.int .u64 r) _ (by exact H.out.1.blk) (by exact H.out.1.bys) (by omega) (by exact H.out.1.len)).mono ?_; rintro e w' ⟨rfl, m, rfl⟩)
          all_goals
            go_wp2_with fail
            go_meet
            exact ⟨by simpa [decCells] using ((H.out.1.blk.put 1 _).drewN _).put 2 _, (((Only.refl _ _).put (by rfl) 1 _).drewN _).put (by rfl) 2 _⟩
        case rest =>
          obtain ⟨hB, hO⟩ := hcut
          clear h0 h1 h2 h3 f1 f2 f3
          have h3 := hB.cell 3
          have f3 := hB.frozen 3
          simp at h3
          have G := hid (And.intro hB hO)
          clear hB hO
          go_wp2
          refine wp_named (fun W => Blk W b 146 #[.slice (some ⟨g, 0, none⟩) bs.length c, .int .i64 (at_ + 1 : Nat), .int .u64 (off * 256 + byteAt bs at_ : Nat), .int .u64 (r * 256 : Nat)] ∧ Only (· = b) wr W) ?_ ?_
          · exact ⟨by simpa using G.out.1.put 3 _, G.out.2.put (by rfl) 3 _⟩
          rintro W ⟨hB, hO⟩
          clear h3 f3 G
          have h2 := hB.cell 2
          have h3 := hB.cell 3
          have f2 := hB.frozen 2
          simp at h2 h3
          have G := hid (And.intro hB hO)
          clear hB hO
          go_region
          go_wp2
          obtain ⟨hd, ho, hn⟩ := H.out
          obtain ⟨hB, hO⟩ := G.out
          obtain ⟨k, rfl⟩ : ∃ k, gk = k + 1 := by
            cases gk with
            | zero => exact absurd B.out (by simp only [lowR]; omega)
            | succ k => exact ⟨k, rfl⟩
          go_roundg k
          case measure => omega
          case rel =>
            refine ⟨bs, at_ + 1, min (off * 256 + byteAt bs at_) (r * 256), r * 256, ⟨?_, ?_, hd.len⟩, ?_, ?_, lowR_next B.out.1, by omega, by omega, by omega⟩
            · have e : (min ((off : Int) * 256 + (byteAt bs at_ : Int)) ((r : Int) * 256)) = ((min (off * 256 + byteAt bs at_) (r * 256) : Nat) : Int) := by omega
              rw [e]
              have := (hB.put 2 (.int .u64 (min (off * 256 + byteAt bs at_) (r * 256) : Nat))).drew
              simpa [decCells] using this
            · exact hd.bys.only (S := (· = b)) ((hO.put (by rfl) 2 _).drew) hd.ne.symm
            · exact ho.trans ((hO.put (by rfl) 2 _).drew)
            · rw [← hn]
              simp [Dec.norm, B.out.2, Dec.step]
      · have hge : decide ((r : Int) < 16777216) = false := by simp; omega
        have B := hid hlt
        clear hlt hr1
        go_wp2
        go_ret
        obtain ⟨hd, ho, hn⟩ := H.out
        refine ⟨rfl, ?_, ho⟩
        rw [← hn]
        cases gk with
        | zero => exact hd
        | succ k => rw [Dec.norm, if_neg B.out]; exact hd
end Go.Proofs.YtkkgpdejmcpcpaaGreatDoor

/- Small functions that only reckon: chance, context, bound. -/
namespace Go.Proofs.YtkkgpdejmcpcpaaGreatDoor
open Go.RowKit

theorem chance_yes (p : Int) (w : World) (h1 : 1 ≤ p) (h2 : p ≤ 2047) : Calls Tryz.prog 127 #[.int .i64 p] w fun e w' => e = .returned (.bool true) ∧ w = w' := by
  go_enter Tryz.func127, Tryz.ntmps127
  go_wp2
  go_ret
  exact ⟨rfl, rfl⟩
theorem chance_no (p : Int) (w : World) (h : p < 1 ∨ 2047 < p) : Calls Tryz.prog 127 #[.int .i64 p] w fun e w' => e = .returned (.bool false) ∧ w = w' := by
  rcases h with h | h
  · go_enter Tryz.func127, Tryz.ntmps127
    go_wp2
    go_ret
    exact ⟨rfl, rfl⟩
  · have h' : 1 ≤ p := by omega
    have h2 : decide (p ≤ 2047) = false := by simp; omega
    go_enter Tryz.func127, Tryz.ntmps127
    go_wp2
    go_ret
    exact ⟨rfl, rfl⟩
end Go.Proofs.YtkkgpdejmcpcpaaGreatDoor

/- The decoder: Code, Flat, Over, NewDecoder. -/
namespace Go.Proofs.YtkkgpdejmcpcpaaGreatDoor
open Go.RowKit

theorem dec_narrow_at (b g c v : Nat) (x : Int) (hx : x = (v : Nat)) (d : Dec) (w : World) (hd : DecAt w b g c d) (ho : d.Ok 1000000000) (hv1 : 1 ≤ v) (hv2 : v < d.r) :
    Calls Tryz.prog 136 #[.pointer (some ⟨b, 0, none⟩), .int .u64 x] w fun e w' => e = .returned (.bool (d.bit v)) ∧ DecPart w b g c (d.narrow v) w' := by
  subst hx
  obtain ⟨bs, at_, off, r⟩ := d
  exact dec_narrow b g c v bs at_ off r w hd ho.at_ hv1 hv2 ho.off ho.r1

set_option maxHeartbeats 400000 in
theorem dec_flat (b g c : Nat) (d : Dec) (w : World) (hd : DecAt w b g c d) (ho : d.Ok 1000000000) :
    Calls Tryz.prog 135 #[.pointer (some ⟨b, 0, none⟩)] w fun e w' => e = .returned (.bool (d.bit (d.r / 2))) ∧ DecPart w b g c (d.narrow (d.r / 2)) w' := by
  have h3 := hd.blk.cell 3
  simp [decCells] at h3
  have D := hid (And.intro hd ho)
  have hr0 := ho.r0
  have hr1 := ho.r1
  clear hd ho
  generalize hr : d.r = r at *
  have R := hid hr
  clear hr
  have B := hid (And.intro hr0 hr1)
  have wq : IntKind.u64.wrap ((r : Int) / 2) = (r : Int) / 2 := wu64 (by omega) (by omega)
  clear hr0 hr1
  go_enter Tryz.func135, Tryz.ntmps135
  go_wp2_with fail
  refine (dec_narrow_at b g c (r / 2) _ (by omega) d _ D.out.1 D.out.2 (by have := B.out; omega) (by rw [R.out]; have := B.out; omega)).mono ?_
  rintro e w' ⟨rfl, hp⟩
  have P := hid hp
  clear hp
  go_wp2
  go_ret
  exact ⟨rfl, P.out⟩

set_option maxHeartbeats 400000 in
theorem dec_code_no (b g c : Nat) (p : Int) (d : Dec) (w : World) (_hd : DecAt w b g c d) (h : p < 1 ∨ 2047 < p) :
    Calls Tryz.prog 134 #[.pointer (some ⟨b, 0, none⟩), .int .i64 p] w fun e w' => e = .returned (.tuple #[.bool false, .iface 43 (.int .i64 3)]) ∧ w = w' := by
  go_enter Tryz.func134, Tryz.ntmps134
  go_wp2_with (go_at_call 127; refine (chance_no p _ h).mono ?_; rintro e w' ⟨rfl, rfl⟩)
  go_ret2
  exact ⟨rfl, rfl⟩

set_option maxHeartbeats 400000 in
theorem dec_code (b g c p : Nat) (d : Dec) (w : World) (hd : DecAt w b g c d) (ho : d.Ok 1000000000) (h1 : 1 ≤ p) (h2 : p ≤ 2047) :
    Calls Tryz.prog 134 #[.pointer (some ⟨b, 0, none⟩), .int .i64 p] w fun e w' => e = .returned (.tuple #[.bool (d.bit (d.r / 2048 * p)), .nilIface]) ∧ DecPart w b g c (d.narrow (d.r / 2048 * p)) w' := by
  have h3 := hd.blk.cell 3
  simp [decCells] at h3
  have D := hid (And.intro hd ho)
  have hr0 := ho.r0
  have hr1 := ho.r1
  clear hd ho
  generalize hr : d.r = r at *
  have R := hid hr
  clear hr
  have B := hid (And.intro hr0 hr1)
  have wq : IntKind.u64.wrap ((r : Int) / 2048) = (r : Int) / 2048 := wu64 (by omega) (by omega)
  clear hr0 hr1
  have hm : 1 ≤ r / 2048 * p ∧ r / 2048 * p < r := by
    have := B.out
    have hq : 8192 ≤ r / 2048 := by omega
    constructor
    · exact Nat.mul_pos (by omega) h1
    · have : r / 2048 * p ≤ r / 2048 * 2047 := Nat.mul_le_mul_left _ h2
      omega
  have M := hid hm
  clear hm
  have w1 : IntKind.u64.wrap (p : Int) = (p : Int) := wu64 (by omega) (by omega)
  have w2 : IntKind.u64.wrap ((r : Int) / 2048 * (p : Int)) = ((r / 2048 * p : Nat) : Int) := by
    have e : ((r : Int) / 2048 * (p : Int)) = ((r / 2048 * p : Nat) : Int) := by simp
    rw [e]
    have := M.out
    have := B.out
    exact wu64 (by omega) (by omega)
  go_enter Tryz.func134, Tryz.ntmps134
  go_wp2_with (go_at_call 127; refine (chance_yes p _ (by omega) (by omega)).mono ?_; rintro e w' ⟨rfl, rfl⟩)
  refine (dec_narrow_at b g c (r / 2048 * p) _ (by simp) d _ D.out.1 D.out.2 M.out.1 (by rw [R.out]; exact M.out.2)).mono ?_
  rintro e w' ⟨rfl, hp⟩
  have P := hid hp
  clear hp
  go_wp2
  go_ret2
  exact ⟨rfl, P.out⟩

set_option maxHeartbeats 400000 in
theorem dec_over (b g c : Nat) (d : Dec) (w : World) (hd : DecAt w b g c d) (hat : d.at_ ≤ 1000000000) :
    Calls Tryz.prog 51 #[.pointer (some ⟨b, 0, none⟩)] w fun e w' => e = .returned (.int .i64 (d.at_ - d.bs.length : Nat)) ∧ ∃ m, w' = w.drewN m := by
  have h0 := hd.blk.cell 0
  have h1 := hd.blk.cell 1
  simp [decCells] at h0 h1
  have hl := hd.len
  clear hd
  generalize d.bs.length = n at *
  generalize d.at_ = k at *
  go_enter Tryz.func51, Tryz.ntmps51
  go_wp2
  go_quiet (fail)
  go_wp2
  go_ret
  refine ⟨?_, _, rfl⟩
  show Ending.returned (.int .i64 _) = _
  congr 2
  omega
end Go.Proofs.YtkkgpdejmcpcpaaGreatDoor

