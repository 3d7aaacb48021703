/- Parts: XRound, XDecWalks, XSmall. -/
import Derived.Test.YtkkgpdejmcpcpaaGreatDoorM04
import Derived.Test.YtkkgpdejmcpcpaaGreatDoorProg
import Derived.Test.YtkkgpdejmcpcpaaGreatDoorM01
import Derived.Test.YtkkgpdejmcpcpaaGreatDoorM03
import Derived.Deep.QuietTactic
import Derived.Deep.RegionWith
import Derived.Deep.LoopGhost
import Derived.BigQuiet
import Derived.Deep.DeepCutAuto
import Derived.Lib.MinMax
import Derived.StillTailTactics
import Derived.RegionTactic
import Derived.ChangeAlike
/- Plain laws: what was coded comes back. -/
namespace Go.Proofs.YtkkgpdejmcpcpaaGreatDoor

/-! ### An encoder as an interval -/
def Enc.V (e : Enc) : Nat := val (e.out ++ four e.low)
def Enc.n (e : Enc) : Nat := e.out.length + 4
/-- The interval lies within what the bytes can say. -/
structure Enc.Fit (e : Enc) : Prop where
  low : e.low ≤ 4294967295
  top : e.V + e.r ≤ 256 ^ e.n
theorem Enc.V_eq (e : Enc) (h : e.low ≤ 4294967295) : e.V = val e.out * 4294967296 + e.low := by
  unfold Enc.V
  rw [val_append, val_four _ h, four_len]
/-- What comes after lies within. -/
structure Inside (e f : Enc) : Prop where
  n : e.n ≤ f.n
  lo : e.V * 256 ^ (f.n - e.n) ≤ f.V
  hi : f.V + f.r ≤ (e.V + e.r) * 256 ^ (f.n - e.n)
theorem Inside.refl (e : Enc) : Inside e e := ⟨Nat.le_refl _, by simp, by simp⟩
theorem Inside.trans {e f g : Enc} (h : Inside e f) (k : Inside f g) : Inside e g := by
  have hp : 256 ^ (g.n - e.n) = 256 ^ (f.n - e.n) * 256 ^ (g.n - f.n) := by
    rw [← Nat.pow_add]
    congr 1
    have := h.n; have := k.n; omega
  refine ⟨Nat.le_trans h.n k.n, ?_, ?_⟩
  · rw [hp, ← Nat.mul_assoc]
    exact Nat.le_trans (Nat.mul_le_mul_right _ h.lo) k.lo
  · rw [hp, ← Nat.mul_assoc]
    exact Nat.le_trans k.hi (Nat.mul_le_mul_right _ h.hi)

theorem Enc.step_V (e : Enc) (h : e.low ≤ 4294967295) : e.step.V = e.V * 256 := by
  rw [Enc.V_eq e h, Enc.V_eq e.step (by show e.low * 256 % 4294967296 ≤ _; omega)]
  show val (e.out ++ [UInt8.ofNat (e.low / 16777216)]) * 4294967296 + e.low * 256 % 4294967296 = _
  rw [val_append, val_one]
  have : (UInt8.ofNat (e.low / 16777216)).toNat = e.low / 16777216 := by simp; omega
  rw [this]
  simp only [List.length_cons, List.length_nil]
  omega
theorem Enc.step_n (e : Enc) : e.step.n = e.n + 1 := by show (e.out ++ [_]).length + 4 = _; simp [Enc.n]
theorem Enc.step_fit {e : Enc} (h : e.Fit) : e.step.Fit := by
  refine ⟨by show e.low * 256 % 4294967296 ≤ _; omega, ?_⟩
  rw [Enc.step_V e h.low, Enc.step_n, Nat.pow_succ]
  show e.V * 256 + e.r * 256 ≤ _
  have := h.top
  omega
theorem Enc.step_inside {e : Enc} (h : e.Fit) : Inside e e.step := by
  have hn := Enc.step_n e
  have hk : e.step.n - e.n = 1 := by omega
  refine ⟨by omega, ?_, ?_⟩
  · rw [hk, Enc.step_V e h.low]; omega
  · rw [hk, Enc.step_V e h.low]
    show e.V * 256 + e.r * 256 ≤ _
    omega
theorem Enc.norm_fit (k : Nat) : ∀ (e : Enc), e.Fit → (Enc.norm k e).Fit ∧ Inside e (Enc.norm k e) := by
  induction k with
  | zero => intro e h; exact ⟨h, Inside.refl _⟩
  | succ k ih =>
    intro e h
    rw [Enc.norm]
    split
    · have := ih e.step (Enc.step_fit h)
      exact ⟨this.1, (Enc.step_inside h).trans this.2⟩
    · exact ⟨h, Inside.refl _⟩
theorem Enc.part_n (e : Enc) (v : Nat) (b : Bool) : (e.part v b).n = e.n := by
  unfold Enc.part Enc.n
  cases b <;> simp
  split <;> simp [carry_len]
theorem Enc.part_r (e : Enc) (v : Nat) (b : Bool) : (e.part v b).r = if b then e.r - v else v := by
  unfold Enc.part
  cases b <;> simp
  split <;> rfl
theorem Enc.part_V {e : Enc} (h : e.Fit) (v : Nat) (hv : v < e.r) (hr : e.r ≤ 4294967295) (b : Bool) : (e.part v b).V = (if b then e.V + v else e.V) ∧ (e.part v b).low ≤ 4294967295 := by
  cases b with
  | false => exact ⟨rfl, h.low⟩
  | true =>
    have hl := h.low
    have ht := h.top
    rw [Enc.V_eq e hl] at ht
    have hpow : 256 ^ e.n = 256 ^ e.out.length * 4294967296 := by unfold Enc.n; rw [Nat.pow_add]
    rw [hpow] at ht
    unfold Enc.part
    rw [if_pos rfl]
    split
    · rename_i hc
      have hlow : e.low + v - 4294967296 ≤ 4294967295 := by omega
      refine ⟨?_, hlow⟩
      rw [Enc.V_eq ⟨carry e.out, e.low + v - 4294967296, e.r - v⟩ hlow, Enc.V_eq e hl]
      show val (carry e.out) * 4294967296 + (e.low + v - 4294967296) = _
      rw [val_carry, Nat.mod_eq_of_lt (by
        have : val e.out * 4294967296 + 4294967296 < 256 ^ e.out.length * 4294967296 + 1 := by omega
        rcases Nat.lt_or_ge (val e.out + 1) (256 ^ e.out.length) with h1 | h1
        · exact h1
        · exfalso
          have h2 := Nat.mul_le_mul_right 4294967296 h1
          omega)]
      simp only [if_true]
      omega
    · rename_i hc
      have hlow : e.low + v ≤ 4294967295 := by omega
      refine ⟨?_, hlow⟩
      rw [Enc.V_eq ⟨e.out, e.low + v, e.r - v⟩ hlow, Enc.V_eq e hl]
      simp only [if_true]
      omega
theorem Enc.part_fit {e : Enc} (h : e.Fit) (v : Nat) (hv : v < e.r) (hr : e.r ≤ 4294967295) (b : Bool) : (e.part v b).Fit ∧ Inside e (e.part v b) := by
  obtain ⟨hV, hl⟩ := Enc.part_V h v hv hr b
  have hn := Enc.part_n e v b
  have hR := Enc.part_r e v b
  have ht := h.top
  refine ⟨⟨hl, ?_⟩, ⟨by omega, ?_, ?_⟩⟩
  · rw [hV, hn, hR]; cases b <;> simp <;> omega
  · rw [hn, Nat.sub_self, hV]; cases b <;> simp
  · rw [hn, Nat.sub_self, hV, hR]; cases b <;> simp <;> omega
theorem Enc.narrow_fit {e : Enc} (h : e.Fit) (v : Nat) (hv : v < e.r) (hr : e.r ≤ 4294967295) (b : Bool) : (e.narrow v b).Fit ∧ Inside e (e.narrow v b) := by
  have h1 := Enc.part_fit h v hv hr b
  have h2 := Enc.norm_fit 3 _ h1.1
  exact ⟨h2.1, h1.2.trans h2.2⟩

/-! ### The bytes of the last state, read from the first on -/
theorem trim_zeros (l : List UInt8) : ∃ m, l = trim l ++ List.replicate m 0 := by
  have h : ∀ r : List UInt8, ∃ m, r = List.replicate m 0 ++ trimRev r := by
    intro r
    induction r with
    | nil => exact ⟨0, rfl⟩
    | cons x r ih =>
      obtain ⟨m, hm⟩ := ih
      simp only [trimRev]
      split
      · rename_i hx
        subst hx
        exact ⟨m + 1, by rw [List.replicate_succ, List.cons_append, ← hm]⟩
      · exact ⟨0, rfl⟩
  obtain ⟨m, hm⟩ := h l.reverse
  refine ⟨m, ?_⟩
  have := congrArg List.reverse hm
  rw [List.reverse_reverse, List.reverse_append, List.reverse_replicate] at this
  exact this
theorem byteAt_trim (l : List UInt8) (k : Nat) : byteAt (trim l) k = byteAt l k := by
  obtain ⟨m, hm⟩ := trim_zeros l
  conv => rhs; rw [hm]
  unfold byteAt
  rw [List.getD_eq_getElem?_getD, List.getD_eq_getElem?_getD, List.getElem?_append]
  split
  · rfl
  · rename_i h
    rw [List.getElem?_eq_none (by omega)]
    rw [List.getElem?_replicate]
    split <;> rfl
theorem pre_trim (l : List UInt8) (k : Nat) : pre (trim l) k = pre l k := by
  induction k with
  | zero => rfl
  | succ k ih => rw [pre, pre, ih, byteAt_trim]
theorem pre_take (l : List UInt8) (k : Nat) (h : k ≤ l.length) : pre l k = val (l.take k) := by
  induction k with
  | zero => simp [pre, val, valR]
  | succ k ih =>
    rw [pre, ih (by omega), List.take_add_one, List.getElem?_eq_getElem (by omega)]
    simp only [Option.toList_some]
    rw [val_append, val_one]
    unfold byteAt
    rw [List.getD_eq_getElem?_getD, List.getElem?_eq_getElem (by omega)]
    simp
theorem pre_val (l : List UInt8) (k : Nat) (h : k ≤ l.length) : pre l k = val l / 256 ^ (l.length - k) := by
  rw [pre_take l k h]
  have h1 : val l = val (l.take k) * 256 ^ (l.length - k) + val (l.drop k) := by
    conv => lhs; rw [← List.take_append_drop k l]
    rw [val_append, List.length_drop]
  have h2 := val_lt (l.drop k)
  rw [List.length_drop] at h2
  rw [h1, Nat.mul_comm, Nat.mul_add_div (by exact Nat.pow_pos (by omega)), Nat.div_eq_of_lt h2, Nat.add_zero]
theorem pre_bytes (f : Enc) (k : Nat) (h : k ≤ f.n) : pre f.bytes k = f.V / 256 ^ (f.n - k) := by
  unfold Enc.bytes
  rw [pre_trim, pre_val _ _ (by simpa [Enc.n, four_len] using h)]
  simp [Enc.V, Enc.n, four_len]
theorem Inside.pre {e f : Enc} (h : Inside e f) (hr : 1 ≤ f.r) : e.V ≤ pre f.bytes e.n ∧ pre f.bytes e.n < e.V + e.r := by
  have hp : 0 < 256 ^ (f.n - e.n) := Nat.pow_pos (by omega)
  rw [pre_bytes f _ h.n]
  refine ⟨(Nat.le_div_iff_mul_le hp).2 h.lo, (Nat.div_lt_iff_lt_mul hp).2 ?_⟩
  have := h.hi
  omega

/-! ### A decoder in step -/
structure Track (f : Enc) (d : Dec) (e : Enc) : Prop where
  bs : d.bs = f.bytes
  at_ : d.at_ = e.n
  r : d.r = e.r
  off : d.off + e.V = pre f.bytes e.n
theorem Track.step {f e : Enc} {d : Dec} (h : Track f d e) (hl : e.Fit) (hi : Inside e f) (hf : 1 ≤ f.r) : Track f d.step e.step := by
  obtain ⟨h1, h2, h3, h4⟩ := h
  have hp := hi.pre hf
  have hb := byteAt_lt f.bytes e.n
  refine ⟨h1, by rw [Enc.step_n]; show d.at_ + 1 = _; omega, by show d.r * 256 = e.r * 256; rw [h3], ?_⟩
  rw [Enc.step_n, Enc.step_V e hl.low]
  show min (d.off * 256 + byteAt d.bs d.at_) (d.r * 256) + e.V * 256 = Go.Proofs.YtkkgpdejmcpcpaaGreatDoor.pre f.bytes e.n * 256 + byteAt f.bytes e.n
  rw [h1, h2, h3]
  omega
theorem Track.norm {f : Enc} (hf : 1 ≤ f.r) (k : Nat) : ∀ {e : Enc} {d : Dec}, Track f d e → e.Fit → Inside (Enc.norm k e) f → Track f (Dec.norm k d) (Enc.norm k e) := by
  induction k with
  | zero => intro e d h _ _; exact h
  | succ k ih =>
    intro e d h hl hi
    rw [Enc.norm] at hi ⊢
    rw [Dec.norm, h.r]
    split
    · rename_i hlt
      rw [if_pos hlt] at hi
      have hmid : Inside e.step f := (Enc.norm_fit k _ (Enc.step_fit hl)).2.trans hi
      exact ih (h.step hl ((Enc.step_inside hl).trans hmid) hf) (Enc.step_fit hl) hi
    · exact h
theorem Track.narrow {f e : Enc} {d : Dec} (h : Track f d e) (hl : e.Fit) (hf : 1 ≤ f.r) (v : Nat) (hv : v < e.r) (hr : e.r ≤ 4294967295) (b : Bool) (hi : Inside (e.narrow v b) f) :
    d.bit v = b ∧ Track f (d.narrow v) (e.narrow v b) := by
  have hp := Enc.part_fit hl v hv hr b
  have hmid : Inside (e.part v b) f := (Enc.norm_fit 3 _ hp.1).2.trans hi
  have hpre := hmid.pre hf
  have hV := (Enc.part_V hl v hv hr b).1
  have hn := Enc.part_n e v b
  have hR := Enc.part_r e v b
  obtain ⟨h1, h2, h3, h4⟩ := h
  rw [hV, hn, hR] at hpre
  have hbit : d.bit v = b := by
    unfold Dec.bit
    cases b with
    | true => simp only [if_true] at hpre; exact decide_eq_true (by omega)
    | false => simp at hpre; exact decide_eq_false (by omega)
  refine ⟨hbit, ?_⟩
  refine Track.norm hf 3 ?_ hp.1 hi
  have hle : (v ≤ d.off) = (b = true) := by
    unfold Dec.bit at hbit
    cases b <;> simp_all
  unfold Dec.part
  cases b with
  | true =>
    rw [if_pos (by rw [hle])]
    refine ⟨h1, by rw [hn]; exact h2, by rw [hR, h3]; rfl, ?_⟩
    rw [hV, hn]
    simp only [if_true] at hpre ⊢
    omega
  | false =>
    rw [if_neg (by rw [hle]; decide)]
    refine ⟨h1, by rw [hn]; exact h2, by rw [hR]; rfl, ?_⟩
    rw [hV, hn]
    simpa using h4
end Go.Proofs.YtkkgpdejmcpcpaaGreatDoor

/- The decoder's functions: next, narrow, Code, Flat, Over. -/
namespace Go.Proofs.YtkkgpdejmcpcpaaGreatDoor
open Go.RowKit

def Bys (w : World) (g : Nat) (bs : List UInt8) : Prop := ∃ cs, Blk w g 5 cs ∧ ∀ i, i < bs.length → cs[i]? = some (.int .u8 (byteAt bs i : Nat))
theorem Bys.cell {w : World} {g : Nat} {bs : List UInt8} (h : Bys w g bs) (i : Nat) (hi : i < bs.length) : w.cell? ⟨g, i, none⟩ = some (.int .u8 (byteAt bs i : Nat)) := by
  obtain ⟨cs, hb, hc⟩ := h
  rw [hb.cell]; exact hc i hi

def decCells (d : Dec) (g c : Nat) : Array Value := #[.slice (some ⟨g, 0, none⟩) d.bs.length c, .int .i64 (d.at_ : Nat), .int .u64 (d.off : Nat), .int .u64 (d.r : Nat)]
/-- A decoder at block b, its bytes in block g. -/
structure DecAt (w : World) (b g c : Nat) (d : Dec) : Prop where
  blk : Blk w b 146 (decCells d g c)
  bys : Bys w g d.bs
  len : d.bs.length ≤ 150000000000000

theorem DecAt.ne {w : World} {b g c : Nat} {d : Dec} (h : DecAt w b g c d) : b ≠ g := by
  obtain ⟨cs, hb, _⟩ := h.bys
  exact h.blk.apart hb (by decide)
theorem Bys.only {S : Nat → Prop} {w w' : World} {g : Nat} {bs : List UInt8} (h : Bys w g bs) (ho : Only S w w') (hg : ¬ S g) : Bys w' g bs := by
  obtain ⟨cs, hb, hc⟩ := h
  exact ⟨cs, hb.keep ho hg, hc⟩

set_option maxHeartbeats 400000 in
theorem next_in (b g n c k v : Nat) (o1 o2 : Value) (w : World) (hb : Blk w b 146 #[.slice (some ⟨g, 0, none⟩) n c, .int .i64 k, o1, o2])
    (hx : w.cell? ⟨g, k, none⟩ = some (.int .u8 v)) (hv : v < 256) (hk : k < n) (hn : n ≤ 150000000000000) :
    Calls Tryz.prog 74 #[.pointer (some ⟨b, 0, none⟩)] w fun e w' => e = .returned (.int .u64 v) ∧ ∃ m, w' = (w.setCell ⟨b, 1, none⟩ (.int .i64 (k + 1 : Nat))).drewN m := by
  have h0 := hb.cell 0
  have h1 := hb.cell 1
  have f1 := hb.frozen 1
  simp at h0 h1
  have k0 : (0 : Int) ≤ (k : Int) := by omega
  have k1 : (k : Int) < (n : Int) := by omega
  clear hb
  go_enter Tryz.func74, Tryz.ntmps74
  go_wp2
  go_quiet (fail)
  go_wp2
  go_quiet (fail)
  go_wp2
  go_ret
  exact ⟨rfl, _, rfl⟩
set_option maxHeartbeats 400000 in
theorem next_out (b g n c k : Nat) (o1 o2 : Value) (w : World) (hb : Blk w b 146 #[.slice (some ⟨g, 0, none⟩) n c, .int .i64 k, o1, o2])
    (hk : n ≤ k) (hn : k ≤ 150000000000000) :
    Calls Tryz.prog 74 #[.pointer (some ⟨b, 0, none⟩)] w fun e w' => e = .returned (.int .u64 (0 : Nat)) ∧ ∃ m, w' = (w.setCell ⟨b, 1, none⟩ (.int .i64 (k + 1 : Nat))).drewN m := by
  have h0 := hb.cell 0
  have h1 := hb.cell 1
  have f1 := hb.frozen 1
  simp at h0 h1
  have k0 : (0 : Int) ≤ (k : Int) := by omega
  have k1 : (n : Int) ≤ (k : Int) := by omega
  clear hb
  go_enter Tryz.func74, Tryz.ntmps74
  go_wp2
  go_quiet (fail)
  go_wp2
  go_ret
  exact ⟨rfl, _, rfl⟩
theorem next_any (b g c k : Nat) (bs : List UInt8) (o1 o2 : Value) (w : World) (hb : Blk w b 146 #[.slice (some ⟨g, 0, none⟩) bs.length c, .int .i64 k, o1, o2])
    (hx : Bys w g bs) (hk : k ≤ 150000000000000) (hn : bs.length ≤ 150000000000000) :
    Calls Tryz.prog 74 #[.pointer (some ⟨b, 0, none⟩)] w fun e w' => e = .returned (.int .u64 (byteAt bs k : Nat)) ∧ ∃ m, w' = (w.setCell ⟨b, 1, none⟩ (.int .i64 (k + 1 : Nat))).drewN m := by
  by_cases h : k < bs.length
  · exact next_in b g _ c k _ o1 o2 w hb (hx.cell k h) (byteAt_lt _ _) h hn
  · rw [byteAt_past _ _ (by omega)]
    exact next_out b g _ c k o1 o2 w hb (by omega) hk

def lowR : Nat → Nat
  | 0 => 16777216
  | 1 => 65536
  | 2 => 256
  | _ => 1
theorem lowR_next {k r : Nat} (h : lowR (k + 1) ≤ r) : lowR k ≤ r * 256 := by
  match k, h with
  | 0, h => simp only [lowR] at *; omega
  | 1, h => simp only [lowR] at *; omega
  | 2, h => simp only [lowR] at *; omega
  | k + 3, h => simp only [lowR] at *; omega

def DecLoop (w0 : World) (b g c : Nat) (fin : Dec) (k : Nat) (wr : World) : Prop :=
  ∃ bs at_ off r, DecAt wr b g c ⟨bs, at_, off, r⟩ ∧ Only (· = b) w0 wr ∧ Dec.norm k ⟨bs, at_, off, r⟩ = fin ∧ lowR k ≤ r ∧ r ≤ 4294967295 ∧ off ≤ r ∧ at_ + k ≤ 150000000000000

def DecPart (w0 : World) (b g c : Nat) (d : Dec) (W : World) : Prop := DecAt W b g c d ∧ Only (· = b) w0 W
set_option maxRecDepth 100000 in
set_option maxHeartbeats 400000 in
theorem dec_narrow (b g c v : Nat) (bs : List UInt8) (at_ off r : Nat) (w : World) (hd : DecAt w b g c ⟨bs, at_, off, r⟩) (hat : at_ ≤ 1000000000) (hv1 : 1 ≤ v) (hv2 : v < r) (hof : off ≤ r) (hr : r ≤ 4294967295) :
    Calls Tryz.prog 136 #[.pointer (some ⟨b, 0, none⟩), .int .u64 v] w fun e w' => e = .returned (.bool (Dec.bit ⟨bs, at_, off, r⟩ v)) ∧ DecPart w b g c (Dec.narrow ⟨bs, at_, off, r⟩ v) w' := by
  have h0 := hd.blk.cell 0
  have h1 := hd.blk.cell 1
  have h2 := hd.blk.cell 2
  have h3 := hd.blk.cell 3
  have f1 := hd.blk.frozen 1
  have f2 := hd.blk.frozen 2
  have f3 := hd.blk.frozen 3
  simp [decCells] at h0 h1 h2 h3
  have D := hid hd
  clear hd
  go_enter Tryz.func136, Tryz.ntmps136
  go_upto_if 12 with fail
  go_cut [] (fun W => DecPart w b g c (Dec.part ⟨bs, at_, off, r⟩ v) W)
  case first =>
    by_cases hv : v ≤ off
    · have e1 := sub_u64 (a := off) (b := v) hv (by omega)
      have e2 := sub_u64 (a := r) (b := v) (by omega) (by omega)
      go_wp2_with fail
      go_meet
      refine ⟨⟨?_, ?_, ?_⟩, ?_⟩
      · have := (D.out.blk.put 2 (.int .u64 (off - v : Nat))).put 3 (.int .u64 (r - v : Nat))
        simpa [decCells, Dec.part, hv] using this
      · refine Bys.only (S := (· = b)) ?_ (((Only.refl _ w).put (by rfl) 2 _).put (by rfl) 3 _) D.out.ne.symm
        simpa [Dec.part, hv] using D.out.bys
      · simpa [Dec.part, hv] using D.out.len
      · exact ((Only.refl _ w).put (by rfl) 2 _).put (by rfl) 3 _
    · go_wp2_with fail
      go_meet
      refine ⟨⟨?_, ?_, ?_⟩, ?_⟩
      · have := D.out.blk.put 3 (.int .u64 (v : Nat))
        simpa [decCells, Dec.part, hv] using this
      · refine Bys.only (S := (· = b)) ?_ ((Only.refl _ w).put (by rfl) 3 _) D.out.ne.symm
        simpa [Dec.part, hv] using D.out.bys
      · simpa [Dec.part, hv] using D.out.len
      · exact (Only.refl _ w).put (by rfl) 3 _
  case rest =>
    clear h0 h1 h2 h3 f1 f2 f3
    have C := hid hcut
    clear hcut
    have hp : ∃ o r', Dec.part ⟨bs, at_, off, r⟩ v = ⟨bs, at_, o, r'⟩ ∧ 1 ≤ r' ∧ r' ≤ 4294967295 ∧ o ≤ r' := by
      by_cases hv : v ≤ off
      · exact ⟨off - v, r - v, by simp [Dec.part, hv], by omega, by omega, by omega⟩
      · exact ⟨off, v, by simp [Dec.part, hv], by omega, by omega, by omega⟩
    have P := hid hp
    clear hp
    go_wp2_with fail
    go_loopg [] 3 (fun k wr => DecLoop w b g c (Dec.narrow ⟨bs, at_, off, r⟩ v) k wr)
    case atStart =>
      obtain ⟨o, r', e, h1, h2, h3⟩ := P.out
      obtain ⟨hd, ho⟩ := C.out
      rw [e] at hd
      refine ⟨bs, at_, o, r', hd, ho, ?_, h1, h2, h3, by omega⟩
      unfold Dec.narrow
      rw [e]
    case round =>
      clear C P D
      obtain ⟨bs, at_, off, r, hd, ho, hn, hr1, hr2, hof, hat⟩ := hrel
      have h0 := hd.blk.cell 0
      have h1 := hd.blk.cell 1
      have h2 := hd.blk.cell 2
      have h3 := hd.blk.cell 3
      have f1 := hd.blk.frozen 1
      have f2 := hd.blk.frozen 2
      have f3 := hd.blk.frozen 3
      simp [decCells] at h0 h1 h2 h3
      have H := hid (And.intro hd (And.intro ho hn))
      clear hd ho hn
      by_cases hlt : r < 16777216
      · have B := hid (And.intro hr1 hlt)
        have hlt' : ((r : Int) < 16777216) := by omega
        clear hr1 hlt
        have e3 := shl8_u64 (a := off) (by omega)
        have e4 := shl8_u64 (a := r) (by omega)
        have e5 := or8_u64 (a := off) (v := byteAt bs at_) (by omega) (byteAt_lt _ _)
        go_wp2
        go_cut [] (fun W => Blk W b 146 #[.slice (some ⟨g, 0, none⟩) bs.length c, .int .i64 (at_ + 1 : Nat), .int .u64 (off * 256 + byteAt bs at_ : Nat), .int .u64 r] ∧ Only (· = b) wr W)
        case first =>
          go_region_with (go_at_call 74; refine (next_any b g c at_ bs (.int .u64 off) (.int .u64 r) _ (by exact H.out.1.blk) (by exact H.out.1.bys) (by omega) (by exact H.out.1.len)).mono ?_; rintro e w' ⟨rfl, m, rfl⟩)
          all_goals
            go_wp2_with fail
            go_meet
            exact ⟨by simpa [decCells] using ((H.out.1.blk.put 1 _).drewN _).put 2 _, (((Only.refl _ _).put (by rfl) 1 _).drewN _).put (by rfl) 2 _⟩
        case rest =>
          obtain ⟨hB, hO⟩ := hcut
          clear h0 h1 h2 h3 f1 f2 f3
          have h3 := hB.cell 3
          have f3 := hB.frozen 3
          simp at h3
          have G := hid (And.intro hB hO)
          clear hB hO
          go_wp2
          refine wp_named (fun W => Blk W b 146 #[.slice (some ⟨g, 0, none⟩) bs.length c, .int .i64 (at_ + 1 : Nat), .int .u64 (off * 256 + byteAt bs at_ : Nat), .int .u64 (r * 256 : Nat)] ∧ Only (· = b) wr W) ?_ ?_
          · exact ⟨by simpa using G.out.1.put 3 _, G.out.2.put (by rfl) 3 _⟩
          rintro W ⟨hB, hO⟩
          clear h3 f3 G
          have h2 := hB.cell 2
          have h3 := hB.cell 3
          have f2 := hB.frozen 2
          simp at h2 h3
          have G := hid (And.intro hB hO)
          clear hB hO
          go_region
          go_wp2
          obtain ⟨hd, ho, hn⟩ := H.out
          obtain ⟨hB, hO⟩ := G.out
          obtain ⟨k, rfl⟩ : ∃ k, gk = k + 1 := by
            cases gk with
            | zero => exact absurd B.out (by simp only [lowR]; omega)
            | succ k => exact ⟨k, rfl⟩
          go_roundg k
          case measure => omega
          case rel =>
            refine ⟨bs, at_ + 1, min (off * 256 + byteAt bs at_) (r * 256), r * 256, ⟨?_, ?_, hd.len⟩, ?_, ?_, lowR_next B.out.1, by omega, by omega, by omega⟩
            · have e : (min ((off : Int) * 256 + (byteAt bs at_ : Int)) ((r : Int) * 256)) = ((min (off * 256 + byteAt bs at_) (r * 256) : Nat) : Int) := by omega
              rw [e]
              have := (hB.put 2 (.int .u64 (min (off * 256 + byteAt bs at_) (r * 256) : Nat))).drew
              simpa [decCells] using this
            · exact hd.bys.only (S := (· = b)) ((hO.put (by rfl) 2 _).drew) hd.ne.symm
            · exact ho.trans ((hO.put (by rfl) 2 _).drew)
            · rw [← hn]
              simp [Dec.norm, B.out.2, Dec.step]
      · have hge : decide ((r : Int) < 16777216) = false := by simp; omega
        have B := hid hlt
        clear hlt hr1
        go_wp2
        go_ret
        obtain ⟨hd, ho, hn⟩ := H.out
        refine ⟨rfl, ?_, ho⟩
        rw [← hn]
        cases gk with
        | zero => exact hd
        | succ k => rw [Dec.norm, if_neg B.out]; exact hd
end Go.Proofs.YtkkgpdejmcpcpaaGreatDoor

/- Small functions that only reckon: chance, context, bound. -/
namespace Go.Proofs.YtkkgpdejmcpcpaaGreatDoor
open Go.RowKit

theorem chance_yes (p : Int) (w : World) (h1 : 1 ≤ p) (h2 : p ≤ 2047) : Calls Tryz.prog 127 #[.int .i64 p] w fun e w' => e = .returned (.bool true) ∧ w = w' := by
  go_enter Tryz.func127, Tryz.ntmps127
  go_wp2
  go_ret
  exact ⟨rfl, rfl⟩
theorem chance_no (p : Int) (w : World) (h : p < 1 ∨ 2047 < p) : Calls Tryz.prog 127 #[.int .i64 p] w fun e w' => e = .returned (.bool false) ∧ w = w' := by
  rcases h with h | h
  · go_enter Tryz.func127, Tryz.ntmps127
    go_wp2
    go_ret
    exact ⟨rfl, rfl⟩
  · have h' : 1 ≤ p := by omega
    have h2 : decide (p ≤ 2047) = false := by simp; omega
    go_enter Tryz.func127, Tryz.ntmps127
    go_wp2
    go_ret
    exact ⟨rfl, rfl⟩
end Go.Proofs.YtkkgpdejmcpcpaaGreatDoor

