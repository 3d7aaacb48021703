/- Parts: XDecMore, XEncWalks. -/
import Derived.Test.YtkkgpdejmcpcpaaGreatDoorM05
import Derived.Test.YtkkgpdejmcpcpaaGreatDoorProg
import Derived.Test.YtkkgpdejmcpcpaaGreatDoorM01
import Derived.Test.YtkkgpdejmcpcpaaGreatDoorM03
import Derived.Deep.QuietTactic
import Derived.Deep.RegionWith
import Derived.Deep.LoopGhost
import Derived.BigQuiet
import Derived.Deep.DeepCutAuto
import Derived.Deep.AppendLies
import Derived.Deep.RegionHeld3
import Derived.RegionTactic
import Derived.ChangeAlike
/- The decoder: Code, Flat, Over, NewDecoder. -/
namespace Go.Proofs.YtkkgpdejmcpcpaaGreatDoor
open Go.RowKit

theorem dec_narrow_at (b g c v : Nat) (x : Int) (hx : x = (v : Nat)) (d : Dec) (w : World) (hd : DecAt w b g c d) (ho : d.Ok 1000000000) (hv1 : 1 ≤ v) (hv2 : v < d.r) :
    Calls Tryz.prog 136 #[.pointer (some ⟨b, 0, none⟩), .int .u64 x] w fun e w' => e = .returned (.bool (d.bit v)) ∧ DecPart w b g c (d.narrow v) w' := by
  subst hx
  obtain ⟨bs, at_, off, r⟩ := d
  exact dec_narrow b g c v bs at_ off r w hd ho.at_ hv1 hv2 ho.off ho.r1

set_option maxHeartbeats 400000 in
theorem dec_flat (b g c : Nat) (d : Dec) (w : World) (hd : DecAt w b g c d) (ho : d.Ok 1000000000) :
    Calls Tryz.prog 135 #[.pointer (some ⟨b, 0, none⟩)] w fun e w' => e = .returned (.bool (d.bit (d.r / 2))) ∧ DecPart w b g c (d.narrow (d.r / 2)) w' := by
  have h3 := hd.blk.cell 3
  simp [decCells] at h3
  have D := hid (And.intro hd ho)
  have hr0 := ho.r0
  have hr1 := ho.r1
  clear hd ho
  generalize hr : d.r = r at *
  have R := hid hr
  clear hr
  have B := hid (And.intro hr0 hr1)
  have wq : IntKind.u64.wrap ((r : Int) / 2) = (r : Int) / 2 := wu64 (by omega) (by omega)
  clear hr0 hr1
  go_enter Tryz.func135, Tryz.ntmps135
  go_wp2_with fail
  refine (dec_narrow_at b g c (r / 2) _ (by omega) d _ D.out.1 D.out.2 (by have := B.out; omega) (by rw [R.out]; have := B.out; omega)).mono ?_
  rintro e w' ⟨rfl, hp⟩
  have P := hid hp
  clear hp
  go_wp2
  go_ret
  exact ⟨rfl, P.out⟩

set_option maxHeartbeats 400000 in
theorem dec_code_no (b g c : Nat) (p : Int) (d : Dec) (w : World) (_hd : DecAt w b g c d) (h : p < 1 ∨ 2047 < p) :
    Calls Tryz.prog 134 #[.pointer (some ⟨b, 0, none⟩), .int .i64 p] w fun e w' => e = .returned (.tuple #[.bool false, .iface 43 (.int .i64 3)]) ∧ w = w' := by
  go_enter Tryz.func134, Tryz.ntmps134
  go_wp2_with (go_at_call 127; refine (chance_no p _ h).mono ?_; rintro e w' ⟨rfl, rfl⟩)
  go_ret2
  exact ⟨rfl, rfl⟩

set_option maxHeartbeats 400000 in
theorem dec_code (b g c p : Nat) (d : Dec) (w : World) (hd : DecAt w b g c d) (ho : d.Ok 1000000000) (h1 : 1 ≤ p) (h2 : p ≤ 2047) :
    Calls Tryz.prog 134 #[.pointer (some ⟨b, 0, none⟩), .int .i64 p] w fun e w' => e = .returned (.tuple #[.bool (d.bit (d.r / 2048 * p)), .nilIface]) ∧ DecPart w b g c (d.narrow (d.r / 2048 * p)) w' := by
  have h3 := hd.blk.cell 3
  simp [decCells] at h3
  have D := hid (And.intro hd ho)
  have hr0 := ho.r0
  have hr1 := ho.r1
  clear hd ho
  generalize hr : d.r = r at *
  have R := hid hr
  clear hr
  have B := hid (And.intro hr0 hr1)
  have wq : IntKind.u64.wrap ((r : Int) / 2048) = (r : Int) / 2048 := wu64 (by omega) (by omega)
  clear hr0 hr1
  have hm : 1 ≤ r / 2048 * p ∧ r / 2048 * p < r := by
    have := B.out
    have hq : 8192 ≤ r / 2048 := by omega
    constructor
    · exact Nat.mul_pos (by omega) h1
    · have : r / 2048 * p ≤ r / 2048 * 2047 := Nat.mul_le_mul_left _ h2
      omega
  have M := hid hm
  clear hm
  have w1 : IntKind.u64.wrap (p : Int) = (p : Int) := wu64 (by omega) (by omega)
  have w2 : IntKind.u64.wrap ((r : Int) / 2048 * (p : Int)) = ((r / 2048 * p : Nat) : Int) := by
    have e : ((r : Int) / 2048 * (p : Int)) = ((r / 2048 * p : Nat) : Int) := by simp
    rw [e]
    have := M.out
    have := B.out
    exact wu64 (by omega) (by omega)
  go_enter Tryz.func134, Tryz.ntmps134
  go_wp2_with (go_at_call 127; refine (chance_yes p _ (by omega) (by omega)).mono ?_; rintro e w' ⟨rfl, rfl⟩)
  refine (dec_narrow_at b g c (r / 2048 * p) _ (by simp) d _ D.out.1 D.out.2 M.out.1 (by rw [R.out]; exact M.out.2)).mono ?_
  rintro e w' ⟨rfl, hp⟩
  have P := hid hp
  clear hp
  go_wp2
  go_ret2
  exact ⟨rfl, P.out⟩

set_option maxHeartbeats 400000 in
theorem dec_over (b g c : Nat) (d : Dec) (w : World) (hd : DecAt w b g c d) (hat : d.at_ ≤ 1000000000) :
    Calls Tryz.prog 51 #[.pointer (some ⟨b, 0, none⟩)] w fun e w' => e = .returned (.int .i64 (d.at_ - d.bs.length : Nat)) ∧ ∃ m, w' = w.drewN m := by
  have h0 := hd.blk.cell 0
  have h1 := hd.blk.cell 1
  simp [decCells] at h0 h1
  have hl := hd.len
  clear hd
  generalize d.bs.length = n at *
  generalize d.at_ = k at *
  go_enter Tryz.func51, Tryz.ntmps51
  go_wp2
  go_quiet (fail)
  go_wp2
  go_ret
  refine ⟨?_, _, rfl⟩
  show Ending.returned (.int .i64 _) = _
  congr 2
  omega
end Go.Proofs.YtkkgpdejmcpcpaaGreatDoor

/- The encoder's functions: carry, narrow, Code, Flat. -/
namespace Go.Proofs.YtkkgpdejmcpcpaaGreatDoor
open Go.RowKit

def encCells (v : Value) (low r : Nat) : Array Value := #[v, .int .u64 (low : Nat), .int .u64 (r : Nat)]
/-- An encoder at block b, its settled bytes owned by the slice v. -/
structure EncAt (w : World) (b : Nat) (v : Value) (e : Enc) : Prop where
  blk : Blk w b 122 (encCells v e.low e.r)
  own : w.ownsRow 0 5 1 v e.out.length (e.out.map byteV)
  len : e.out.length ≤ 1000000000000

theorem carry_snoc (l : List UInt8) (x : UInt8) : carry (l ++ [x]) = if x + 1 = 0 then carry l ++ [0] else l ++ [x + 1] := by
  unfold carry
  rw [List.reverse_append]
  simp only [List.reverse_cons, List.reverse_nil, List.nil_append, List.singleton_append, carryRev]
  split
  · rename_i h; rw [List.reverse_cons, h]
  · simp
theorem carry_nil : carry [] = [] := rfl
theorem carry_length (l : List UInt8) : (carry l).length = l.length := by
  have h : ∀ r : List UInt8, (carryRev r).length = r.length := by
    intro r
    induction r with
    | nil => rfl
    | cons x r ih => simp only [carryRev]; split <;> simp [ih]
  unfold carry
  rw [List.length_reverse, h, List.length_reverse]

theorem u8_inc (x : UInt8) : IntKind.u8.wrap ((x.toNat : Int) + 1) = (((x + 1).toNat : Nat) : Int) := by
  rw [UInt8.toNat_add]
  simp only [IntKind.wrap]
  show ((x.toNat : Int) + 1) % 256 = _
  simp
theorem byteV_inj {x y : UInt8} (h : byteV x = byteV y) : x = y := by
  unfold byteV at h
  injection h with _ h
  exact UInt8.toNat_inj.1 (by omega)

def CarryRel (w0 : World) (b g cap : Nat) (out : List UInt8) (low r : Nat) (k : Nat) (i : Value) (wr : World) : Prop :=
  ∃ (l : List UInt8) (z : Nat), k = l.length ∧ i = .int .i64 ((l.length : Int) - 1) ∧ l.length + z = out.length ∧
    EncAt wr b (.slice (some ⟨g, 0, none⟩) out.length cap) ⟨l ++ List.replicate z 0, low, r⟩ ∧ carry out = carry l ++ List.replicate z 0 ∧ Only (fun k => k = b ∨ k = g) w0 wr
def CarryPost (w0 : World) (b g cap : Nat) (out : List UInt8) (low r : Nat) (w' : World) : Prop :=
  EncAt w' b (.slice (some ⟨g, 0, none⟩) out.length cap) ⟨carry out, low, r⟩ ∧ Only (fun k => k = b ∨ k = g) w0 w'

theorem snoc_of (l : List UInt8) (h : 0 < l.length) : ∃ m x, l = m ++ [x] := by
  have hne : l ≠ [] := by intro e; simp [e] at h
  exact ⟨l.dropLast, l.getLast hne, (List.dropLast_concat_getLast hne).symm⟩

theorem enc_ne {w : World} {b g n cap : Nat} {e : Enc} (h : EncAt w b (.slice (some ⟨g, 0, none⟩) n cap) e) : b ≠ g := by
  rcases h.own.2 with ⟨h1, _⟩ | ⟨g', c', cur, h1, _, h2, _⟩
  · cases h1
  · injection h1 with h1
    injection h1 with h1
    injection h1 with h1
    subst h1
    exact Blk.apart h.blk (t' := 5) (cs' := cur) h2 (by decide)
theorem enc_n {w : World} {b g n cap : Nat} {e : Enc} (h : EncAt w b (.slice (some ⟨g, 0, none⟩) n cap) e) : n = e.out.length := by
  rcases h.own.2 with ⟨h1, _⟩ | ⟨g', c', cur, h1, _, h2, _⟩
  · cases h1
  · injection h1
theorem enc_own {w : World} {b g n cap : Nat} {e : Enc} (h : EncAt w b (.slice (some ⟨g, 0, none⟩) n cap) e) : w.ownsRow 0 5 1 (.slice (some ⟨g, 0, none⟩) n cap) n (e.out.map byteV) := by
  have := h.own
  rw [← enc_n h] at this
  exact this
theorem set_mid (m : List UInt8) (x y : UInt8) (t : List UInt8) : ((m ++ [x] ++ t).map byteV).set m.length (byteV y) = (m ++ [y] ++ t).map byteV := by
  simp
/-- One byte stored into the settled ones. -/
theorem enc_stored {w : World} {b g n cap low r : Nat} {m t : List UInt8} {x : UInt8} (h : EncAt w b (.slice (some ⟨g, 0, none⟩) n cap) ⟨m ++ [x] ++ t, low, r⟩) (y : UInt8) (j : Nat) (hj : j = m.length) :
    EncAt (w.setCell ⟨g, j, none⟩ (.int .u8 (y.toNat : Nat))) b (.slice (some ⟨g, 0, none⟩) n cap) ⟨m ++ [y] ++ t, low, r⟩ := by
  subst hj
  have hn := enc_n h
  refine ⟨h.blk.far (enc_ne h) _, ?_, ?_⟩
  · have := ((enc_own h).stored m.length (byteV y)).1
    simp only [set_mid] at this
    rw [hn] at this ⊢
    simpa [byteV] using this
  · have := h.len
    simpa using this

set_option maxRecDepth 100000 in
set_option maxHeartbeats 400000 in
theorem carry_any (b g cap : Nat) (out : List UInt8) (low r : Nat) (w : World) (he : EncAt w b (.slice (some ⟨g, 0, none⟩) out.length cap) ⟨out, low, r⟩) :
    Calls Tryz.prog 129 #[.pointer (some ⟨b, 0, none⟩)] w fun e w' => e = .returned (.tuple #[]) ∧ CarryPost w b g cap out low r w' := by
  have h0 := he.blk.cell 0
  simp [encCells] at h0
  have hlen := he.len
  have hlen' : (out.length : Int) ≤ 1000000000000 := by have := he.len; simp at this; omega
  have E := hid he
  clear he
  go_enter Tryz.func129, Tryz.ntmps129
  go_wp2
  go_loopg [2] out.length (fun k i wr => CarryRel w b g cap out low r k i wr)
  case atStart => exact ⟨out, 0, rfl, rfl, rfl, by simpa using E.out, by simp, Only.refl _ _⟩
  case round =>
    clear h0
    obtain ⟨l, z, rfl, rfl, hz, he, hc, ho⟩ := hrel
    have hne := enc_ne he
    have h0 := he.blk.cell 0
    simp [encCells] at h0
    by_cases hl : 0 < l.length
    · obtain ⟨m, x, rfl⟩ := snoc_of l hl
      have hx := (enc_own he).cellAt m.length (by simp at hz; omega)
      have fx := (enc_own he).frozenAt m.length
      simp [byteV] at hx
      have hi : (((m ++ [x]).length : Nat) : Int) - 1 = (m.length : Int) := by simp
      rw [hi]
      have hb : (0 : Int) ≤ (m.length : Int) := by omega
      have hb2 : (m.length : Int) < (out.length : Int) := by simp at hz; omega
      have hinc := u8_inc x
      have X := hid (And.intro he (And.intro hc (And.intro ho hz)))
      have hxlt := x.toNat_lt
      clear he hc ho hi hl hz
      generalize hm : m.length = ml at *
      have M := hid hm
      clear hm
      generalize hout : out.length = n at *
      have N := hid hout
      clear hout
      by_cases h1 : x + 1 = 0
      · have hx1 : (x + 1).toNat = 0 := by rw [h1]; rfl
        rw [hx1] at hinc
        go_wp2
        obtain ⟨he, hc, ho, hz⟩ := X.out
        have hml := M.out
        have hno := N.out
        go_roundg ml
        case measure => simp; omega
        case rel =>
          refine ⟨m, z + 1, M.out.symm, by rw [hml], by rw [hno]; simp at hz; omega, ?_, ?_, ho.setCell (fun _ => .inr rfl) _⟩
          · have := enc_stored he 0 ml hml.symm
            rw [hno]
            simpa [List.replicate_succ] using this
          · rw [hc, carry_snoc, if_pos h1]
            simp [List.replicate_succ]
      · have hx1 : ((x + 1).toNat : Int) ≠ 0 := by
          intro e
          exact h1 (UInt8.toNat_inj.1 (by show _ = 0; omega))
        have hx2 : (((x + 1).toNat : Int) != 0) = true := by simpa using hx1
        generalize hq : (x + 1).toNat = q at *
        have Q := hid hq
        clear hq
        go_wp2
        refine bodyPost_ret (v := .tuple #[]) (by simp [results, Tryz.results129, go_sem]) rfl ⟨rfl, ?_⟩
        obtain ⟨he, hc, ho, hz⟩ := X.out
        refine ⟨?_, ho.setCell (fun _ => .inr rfl) _⟩
        have := enc_stored he (x + 1) ml M.out.symm
        rw [Q.out] at this
        rw [hc, carry_snoc, if_neg h1]
        rw [N.out]
        simpa using this
    · have hl0 : l = [] := List.eq_nil_of_length_eq_zero (by omega)
      subst hl0
      have X := hid (And.intro he (And.intro hc (And.intro ho hz)))
      clear he hc ho hz hl
      go_wp2
      go_end0
      obtain ⟨he, hc, ho, hz⟩ := X.out
      refine ⟨rfl, ?_, ho⟩
      rw [hc, carry_nil]
      exact he

def Fp (b : Nat) (v : Value) (k : Nat) : Prop := k = b ∨ v.ownBlock = some k
def Fresh (w : World) (v v' : Value) : Prop := ∀ k, v'.ownBlock = some k → v.ownBlock = some k ∨ w.heap.size ≤ k
/-- From w to w' an encoder at b, its bytes in v before, has become e. -/
def EncMoved (w : World) (b : Nat) (v : Value) (e : Enc) (w' : World) : Prop := ∃ v', EncAt w' b v' e ∧ Only (Fp b v) w w' ∧ Fresh w v v'

theorem enc_form {w : World} {b : Nat} {v : Value} {e : Enc} (h : EncAt w b v e) : (v = .slice none 0 0 ∧ e.out = []) ∨ ∃ g cap, v = .slice (some ⟨g, 0, none⟩) e.out.length cap := by
  rcases h.own.2 with ⟨h1, h2⟩ | ⟨g, cap, cur, h1, _⟩
  · exact .inl ⟨h1, List.eq_nil_of_length_eq_zero h2⟩
  · exact .inr ⟨g, cap, h1⟩
theorem enc_apart {w : World} {b : Nat} {v : Value} {e : Enc} (h : EncAt w b v e) : v.ownBlock ≠ some b := by
  rcases enc_form h with ⟨rfl, _⟩ | ⟨g, cap, rfl⟩
  · simp [Value.ownBlock]
  · have := enc_ne h
    simp [Value.ownBlock]
    omega

set_option maxHeartbeats 400000 in
theorem carry_all (b : Nat) (v : Value) (e : Enc) (w : World) (he : EncAt w b v e) :
    Calls Tryz.prog 129 #[.pointer (some ⟨b, 0, none⟩)] w fun x w' => x = .returned (.tuple #[]) ∧ EncAt w' b v ⟨carry e.out, e.low, e.r⟩ ∧ Only (Fp b v) w w' := by
  obtain ⟨out, low, r⟩ := e
  rcases enc_form he with ⟨rfl, h0⟩ | ⟨g, cap, rfl⟩
  · have h0 : out = [] := h0
    subst h0
    have h0 := he.blk.cell 0
    simp [encCells] at h0
    have H := hid he
    clear he
    go_enter Tryz.func129, Tryz.ntmps129
    go_wp2
    go_loopg [2] 0 (fun _ i wr => i = .int .i64 (-1) ∧ wr = w)
    case atStart => exact ⟨rfl, rfl⟩
    case round =>
      obtain ⟨rfl, rfl⟩ := hrel
      go_wp2
      go_end0
      exact ⟨rfl, H.out, Only.refl _ _⟩
  · refine (carry_any b g cap out low r w he).mono ?_
    rintro x w' ⟨h1, h2, h3⟩
    refine ⟨h1, ?_, h3.mono fun k _ hk => ?_⟩
    · exact h2
    · rcases hk with hk | hk
      · exact .inl hk
      · exact .inr (by rw [hk]; rfl)
end Go.Proofs.YtkkgpdejmcpcpaaGreatDoor

