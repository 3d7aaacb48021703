/- Parts: XEncWalks, XEncNarrow. -/
import Derived.Test.YtkkgpdejmcpcpaaGreatDoorProg
import Derived.Test.YtkkgpdejmcpcpaaGreatDoorM01
import Derived.Test.YtkkgpdejmcpcpaaGreatDoorM03
import Derived.Test.YtkkgpdejmcpcpaaGreatDoorM05
import Derived.Deep.QuietTactic
import Derived.Deep.RegionWith
import Derived.Deep.LoopGhost
import Derived.BigQuiet
import Derived.Deep.DeepCutAuto
import Derived.Deep.AppendLies
import Derived.Deep.RegionHeld3
import Derived.RegionTactic
import Derived.ChangeAlike
import Derived.Deep.RegionLaw
/- The encoder's functions: carry, narrow, Code, Flat. -/
namespace Go.Proofs.YtkkgpdejmcpcpaaGreatDoor
open Go.RowKit

def encCells (v : Value) (low r : Nat) : Array Value := #[v, .int .u64 (low : Nat), .int .u64 (r : Nat)]
/-- An encoder at block b, its settled bytes owned by the slice v. -/
structure EncAt (w : World) (b : Nat) (v : Value) (e : Enc) : Prop where
  blk : Blk w b 122 (encCells v e.low e.r)
  own : w.ownsRow 0 5 1 v e.out.length (e.out.map byteV)
  len : e.out.length ≤ 1000000000000

theorem carry_snoc (l : List UInt8) (x : UInt8) : carry (l ++ [x]) = if x + 1 = 0 then carry l ++ [0] else l ++ [x + 1] := by
  unfold carry
  rw [List.reverse_append]
  simp only [List.reverse_cons, List.reverse_nil, List.nil_append, List.singleton_append, carryRev]
  split
  · rename_i h; rw [List.reverse_cons, h]
  · simp
theorem carry_nil : carry [] = [] := rfl
theorem carry_length (l : List UInt8) : (carry l).length = l.length := by
  have h : ∀ r : List UInt8, (carryRev r).length = r.length := by
    intro r
    induction r with
    | nil => rfl
    | cons x r ih => simp only [carryRev]; split <;> simp [ih]
  unfold carry
  rw [List.length_reverse, h, List.length_reverse]

theorem u8_inc (x : UInt8) : IntKind.u8.wrap ((x.toNat : Int) + 1) = (((x + 1).toNat : Nat) : Int) := by
  rw [UInt8.toNat_add]
  simp only [IntKind.wrap]
  show ((x.toNat : Int) + 1) % 256 = _
  simp
theorem byteV_inj {x y : UInt8} (h : byteV x = byteV y) : x = y := by
  unfold byteV at h
  injection h with _ h
  exact UInt8.toNat_inj.1 (by omega)

def CarryRel (w0 : World) (b g cap : Nat) (out : List UInt8) (low r : Nat) (k : Nat) (i : Value) (wr : World) : Prop :=
  ∃ (l : List UInt8) (z : Nat), k = l.length ∧ i = .int .i64 ((l.length : Int) - 1) ∧ l.length + z = out.length ∧
    EncAt wr b (.slice (some ⟨g, 0, none⟩) out.length cap) ⟨l ++ List.replicate z 0, low, r⟩ ∧ carry out = carry l ++ List.replicate z 0 ∧ Only (fun k => k = b ∨ k = g) w0 wr
def CarryPost (w0 : World) (b g cap : Nat) (out : List UInt8) (low r : Nat) (w' : World) : Prop :=
  EncAt w' b (.slice (some ⟨g, 0, none⟩) out.length cap) ⟨carry out, low, r⟩ ∧ Only (fun k => k = b ∨ k = g) w0 w'

theorem snoc_of (l : List UInt8) (h : 0 < l.length) : ∃ m x, l = m ++ [x] := by
  have hne : l ≠ [] := by intro e; simp [e] at h
  exact ⟨l.dropLast, l.getLast hne, (List.dropLast_concat_getLast hne).symm⟩

theorem enc_ne {w : World} {b g n cap : Nat} {e : Enc} (h : EncAt w b (.slice (some ⟨g, 0, none⟩) n cap) e) : b ≠ g := by
  rcases h.own.2 with ⟨h1, _⟩ | ⟨g', c', cur, h1, _, h2, _⟩
  · cases h1
  · injection h1 with h1
    injection h1 with h1
    injection h1 with h1
    subst h1
    exact Blk.apart h.blk (t' := 5) (cs' := cur) h2 (by decide)
theorem enc_n {w : World} {b g n cap : Nat} {e : Enc} (h : EncAt w b (.slice (some ⟨g, 0, none⟩) n cap) e) : n = e.out.length := by
  rcases h.own.2 with ⟨h1, _⟩ | ⟨g', c', cur, h1, _, h2, _⟩
  · cases h1
  · injection h1
theorem enc_own {w : World} {b g n cap : Nat} {e : Enc} (h : EncAt w b (.slice (some ⟨g, 0, none⟩) n cap) e) : w.ownsRow 0 5 1 (.slice (some ⟨g, 0, none⟩) n cap) n (e.out.map byteV) := by
  have := h.own
  rw [← enc_n h] at this
  exact this
theorem set_mid (m : List UInt8) (x y : UInt8) (t : List UInt8) : ((m ++ [x] ++ t).map byteV).set m.length (byteV y) = (m ++ [y] ++ t).map byteV := by
  simp
/-- One byte stored into the settled ones. -/
theorem enc_stored {w : World} {b g n cap low r : Nat} {m t : List UInt8} {x : UInt8} (h : EncAt w b (.slice (some ⟨g, 0, none⟩) n cap) ⟨m ++ [x] ++ t, low, r⟩) (y : UInt8) (j : Nat) (hj : j = m.length) :
    EncAt (w.setCell ⟨g, j, none⟩ (.int .u8 (y.toNat : Nat))) b (.slice (some ⟨g, 0, none⟩) n cap) ⟨m ++ [y] ++ t, low, r⟩ := by
  subst hj
  have hn := enc_n h
  refine ⟨h.blk.far (enc_ne h) _, ?_, ?_⟩
  · have := ((enc_own h).stored m.length (byteV y)).1
    simp only [set_mid] at this
    rw [hn] at this ⊢
    simpa [byteV] using this
  · have := h.len
    simpa using this

set_option maxRecDepth 100000 in
set_option maxHeartbeats 400000 in
theorem carry_any (b g cap : Nat) (out : List UInt8) (low r : Nat) (w : World) (he : EncAt w b (.slice (some ⟨g, 0, none⟩) out.length cap) ⟨out, low, r⟩) :
    Calls Tryz.prog 129 #[.pointer (some ⟨b, 0, none⟩)] w fun e w' => e = .returned (.tuple #[]) ∧ CarryPost w b g cap out low r w' := by
  have h0 := he.blk.cell 0
  simp [encCells] at h0
  have hlen := he.len
  have hlen' : (out.length : Int) ≤ 1000000000000 := by have := he.len; simp at this; omega
  have E := hid he
  clear he
  go_enter Tryz.func129, Tryz.ntmps129
  go_wp2
  go_loopg [2] out.length (fun k i wr => CarryRel w b g cap out low r k i wr)
  case atStart => exact ⟨out, 0, rfl, rfl, rfl, by simpa using E.out, by simp, Only.refl _ _⟩
  case round =>
    clear h0
    obtain ⟨l, z, rfl, rfl, hz, he, hc, ho⟩ := hrel
    have hne := enc_ne he
    have h0 := he.blk.cell 0
    simp [encCells] at h0
    by_cases hl : 0 < l.length
    · obtain ⟨m, x, rfl⟩ := snoc_of l hl
      have hx := (enc_own he).cellAt m.length (by simp at hz; omega)
      have fx := (enc_own he).frozenAt m.length
      simp [byteV] at hx
      have hi : (((m ++ [x]).length : Nat) : Int) - 1 = (m.length : Int) := by simp
      rw [hi]
      have hb : (0 : Int) ≤ (m.length : Int) := by omega
      have hb2 : (m.length : Int) < (out.length : Int) := by simp at hz; omega
      have hinc := u8_inc x
      have X := hid (And.intro he (And.intro hc (And.intro ho hz)))
      have hxlt := x.toNat_lt
      clear he hc ho hi hl hz
      generalize hm : m.length = ml at *
      have M := hid hm
      clear hm
      generalize hout : out.length = n at *
      have N := hid hout
      clear hout
      by_cases h1 : x + 1 = 0
      · have hx1 : (x + 1).toNat = 0 := by rw [h1]; rfl
        rw [hx1] at hinc
        go_wp2
        obtain ⟨he, hc, ho, hz⟩ := X.out
        have hml := M.out
        have hno := N.out
        go_roundg ml
        case measure => simp; omega
        case rel =>
          refine ⟨m, z + 1, M.out.symm, by rw [hml], by rw [hno]; simp at hz; omega, ?_, ?_, ho.setCell (fun _ => .inr rfl) _⟩
          · have := enc_stored he 0 ml hml.symm
            rw [hno]
            simpa [List.replicate_succ] using this
          · rw [hc, carry_snoc, if_pos h1]
            simp [List.replicate_succ]
      · have hx1 : ((x + 1).toNat : Int) ≠ 0 := by
          intro e
          exact h1 (UInt8.toNat_inj.1 (by show _ = 0; omega))
        have hx2 : (((x + 1).toNat : Int) != 0) = true := by simpa using hx1
        generalize hq : (x + 1).toNat = q at *
        have Q := hid hq
        clear hq
        go_wp2
        refine bodyPost_ret (v := .tuple #[]) (by simp [results, Tryz.results129, go_sem]) rfl ⟨rfl, ?_⟩
        obtain ⟨he, hc, ho, hz⟩ := X.out
        refine ⟨?_, ho.setCell (fun _ => .inr rfl) _⟩
        have := enc_stored he (x + 1) ml M.out.symm
        rw [Q.out] at this
        rw [hc, carry_snoc, if_neg h1]
        rw [N.out]
        simpa using this
    · have hl0 : l = [] := List.eq_nil_of_length_eq_zero (by omega)
      subst hl0
      have X := hid (And.intro he (And.intro hc (And.intro ho hz)))
      clear he hc ho hz hl
      go_wp2
      go_end0
      obtain ⟨he, hc, ho, hz⟩ := X.out
      refine ⟨rfl, ?_, ho⟩
      rw [hc, carry_nil]
      exact he

def Fp (b : Nat) (v : Value) (k : Nat) : Prop := k = b ∨ v.ownBlock = some k
def Fresh (w : World) (v v' : Value) : Prop := ∀ k, v'.ownBlock = some k → v.ownBlock = some k ∨ w.heap.size ≤ k
/-- From w to w' an encoder at b, its bytes in v before, has become e. -/
def EncMoved (w : World) (b : Nat) (v : Value) (e : Enc) (w' : World) : Prop := ∃ v', EncAt w' b v' e ∧ Only (Fp b v) w w' ∧ Fresh w v v'

theorem enc_form {w : World} {b : Nat} {v : Value} {e : Enc} (h : EncAt w b v e) : (v = .slice none 0 0 ∧ e.out = []) ∨ ∃ g cap, v = .slice (some ⟨g, 0, none⟩) e.out.length cap := by
  rcases h.own.2 with ⟨h1, h2⟩ | ⟨g, cap, cur, h1, _⟩
  · exact .inl ⟨h1, List.eq_nil_of_length_eq_zero h2⟩
  · exact .inr ⟨g, cap, h1⟩
theorem enc_apart {w : World} {b : Nat} {v : Value} {e : Enc} (h : EncAt w b v e) : v.ownBlock ≠ some b := by
  rcases enc_form h with ⟨rfl, _⟩ | ⟨g, cap, rfl⟩
  · simp [Value.ownBlock]
  · have := enc_ne h
    simp [Value.ownBlock]
    omega

set_option maxHeartbeats 400000 in
theorem carry_all (b : Nat) (v : Value) (e : Enc) (w : World) (he : EncAt w b v e) :
    Calls Tryz.prog 129 #[.pointer (some ⟨b, 0, none⟩)] w fun x w' => x = .returned (.tuple #[]) ∧ EncAt w' b v ⟨carry e.out, e.low, e.r⟩ ∧ Only (Fp b v) w w' := by
  obtain ⟨out, low, r⟩ := e
  rcases enc_form he with ⟨rfl, h0⟩ | ⟨g, cap, rfl⟩
  · have h0 : out = [] := h0
    subst h0
    have h0 := he.blk.cell 0
    simp [encCells] at h0
    have H := hid he
    clear he
    go_enter Tryz.func129, Tryz.ntmps129
    go_wp2
    go_loopg [2] 0 (fun _ i wr => i = .int .i64 (-1) ∧ wr = w)
    case atStart => exact ⟨rfl, rfl⟩
    case round =>
      obtain ⟨rfl, rfl⟩ := hrel
      go_wp2
      go_end0
      exact ⟨rfl, H.out, Only.refl _ _⟩
  · refine (carry_any b g cap out low r w he).mono ?_
    rintro x w' ⟨h1, h2, h3⟩
    refine ⟨h1, ?_, h3.mono fun k _ hk => ?_⟩
    · exact h2
    · rcases hk with hk | hk
      · exact .inl hk
      · exact .inr (by rw [hk]; rfl)
end Go.Proofs.YtkkgpdejmcpcpaaGreatDoor

/- The encoder: narrow. -/
namespace Go.Proofs.YtkkgpdejmcpcpaaGreatDoor
open Go.RowKit


def EncHalf (w0 : World) (b : Nat) (v : Value) (e : Enc) (W : World) : Prop := EncAt W b v e ∧ Only (Fp b v) w0 W

def EncLoop (w0 : World) (b : Nat) (v : Value) (fin : Enc) (k : Nat) (wr : World) : Prop :=
  ∃ v' out low r, EncAt wr b v' ⟨out, low, r⟩ ∧ Only (Fp b v) w0 wr ∧ Fresh w0 v v' ∧ Enc.norm k ⟨out, low, r⟩ = fin ∧ lowR k ≤ r ∧ r ≤ 4294967295 ∧ low ≤ 4294967295 ∧ out.length + k ≤ 1000000010

theorem own_far {w : World} {b i : Nat} {v u : Value} {n : Nat} {xs : List Value} {t : TypeId} (h : w.ownsRow 0 t 1 v n xs) (ha : v.ownBlock ≠ some b) : (w.setCell ⟨b, i, none⟩ u).ownsRow 0 t 1 v n xs :=
  h.kept (row := some b) ⟨rfl, rfl, rfl, by simp, fun k _ hk => Below.heap_setCell _ _ _ _ (by simpa using hk)⟩ (.inr ha)
theorem enc_low {w : World} {b : Nat} {v : Value} {out : List UInt8} {low r : Nat} (h : EncAt w b v ⟨out, low, r⟩) (l : Nat) : EncAt (w.setCell ⟨b, 1, none⟩ (.int .u64 (l : Nat))) b v ⟨out, l, r⟩ :=
  ⟨by simpa [encCells] using h.blk.put 1 (.int .u64 (l : Nat)), own_far h.own (enc_apart h), h.len⟩
theorem enc_r {w : World} {b : Nat} {v : Value} {out : List UInt8} {low r : Nat} (h : EncAt w b v ⟨out, low, r⟩) (l : Nat) : EncAt (w.setCell ⟨b, 2, none⟩ (.int .u64 (l : Nat))) b v ⟨out, low, l⟩ :=
  ⟨by simpa [encCells] using h.blk.put 2 (.int .u64 (l : Nat)), own_far h.own (enc_apart h), h.len⟩
theorem enc_drew {w : World} {b : Nat} {v : Value} {e : Enc} (h : EncAt w b v e) : EncAt w.drew b v e := ⟨h.blk, h.own, h.len⟩

set_option maxRecDepth 100000 in
set_option maxHeartbeats 400000 in
theorem enc_narrow (b x : Nat) (v : Value) (u : Bool) (out : List UInt8) (low r : Nat) (w : World) (he : EncAt w b v ⟨out, low, r⟩) (hx1 : 1 ≤ x) (hx2 : x < r) (hr : r ≤ 4294967295) (hlow : low ≤ 4294967295) (hl : out.length ≤ 1000000000) :
    Calls Tryz.prog 128 #[.pointer (some ⟨b, 0, none⟩), .int .u64 x, .bool u] w fun y w' => y = .returned (.tuple #[]) ∧ EncMoved w b v (Enc.narrow ⟨out, low, r⟩ x u) w' := by
  have h1 := he.blk.cell 1
  have h2 := he.blk.cell 2
  have f1 := he.blk.frozen 1
  have f2 := he.blk.frozen 2
  simp [encCells] at h1 h2
  have E := hid he
  clear he
  go_enter Tryz.func128, Tryz.ntmps128
  go_upto_if 6 with fail
  go_cut [] (fun W => EncHalf w b v (Enc.part ⟨out, low, r⟩ x u) W)
  case first =>
    cases u with
    | false =>
      go_wp2_with fail
      go_meet
      exact ⟨by simpa [Enc.part] using enc_r E.out x, (Only.refl _ w).put (.inl rfl) 2 _⟩
    | true =>
      have e1 : IntKind.u64.wrap ((low : Int) + (x : Int)) = (low : Int) + (x : Int) := wu64 (by omega) (by omega)
      have e2 := sub_u64 (a := r) (b := x) (by omega) (by omega)
      by_cases hc : 4294967295 < low + x
      · have e3 : bits .and .u64 ((low : Int) + (x : Int)) 4294967295 = ((low + x - 4294967296 : Nat) : Int) := by
          have := and32_u64 (a := low + x) (by omega)
          rw [show ((low + x : Nat) : Int) = (low : Int) + (x : Int) from by omega] at this
          rw [this]
          omega
        have hc' : decide ((4294967295 : Int) < (low : Int) + (x : Int)) = true := by simp; omega
        have hp : Enc.part ⟨out, low, r⟩ x true = ⟨carry out, low + x - 4294967296, r - x⟩ := by simp [Enc.part, hc]
        have HP := hid hp
        clear hp hc
        have L := hid (enc_low (enc_r (enc_low E.out (low + x)) (r - x)) (low + x - 4294967296))
        go_wp2_with fail
        refine (carry_all b v _ _ (by simpa using L.out)).mono ?_
        rintro y w' ⟨rfl, hp, ho⟩
        have G := hid (And.intro hp ho)
        clear hp ho
        go_wp2_with fail
        go_meet
        rw [HP.out]
        exact ⟨G.out.1, ((((Only.refl _ w).put (.inl rfl) 1 _).put (.inl rfl) 2 _).put (.inl rfl) 1 _).trans G.out.2⟩
      · have hc' : decide ((4294967295 : Int) < (low : Int) + (x : Int)) = false := by simp; omega
        have hp : Enc.part ⟨out, low, r⟩ x true = ⟨out, low + x, r - x⟩ := by simp [Enc.part, hc]
        have HP := hid hp
        clear hp hc
        go_wp2_with fail
        go_meet
        rw [HP.out]
        exact ⟨by simpa using enc_r (enc_low E.out (low + x)) (r - x), ((Only.refl _ w).put (.inl rfl) 1 _).put (.inl rfl) 2 _⟩
  case rest =>
    clear h1 h2 f1 f2
    have hp : ∃ o l r', Enc.part ⟨out, low, r⟩ x u = ⟨o, l, r'⟩ ∧ 1 ≤ r' ∧ r' ≤ 4294967295 ∧ l ≤ 4294967295 ∧ o.length = out.length := by
      cases u with
      | false => exact ⟨out, low, x, by simp [Enc.part], by omega, by omega, by omega, rfl⟩
      | true =>
        by_cases hc : 4294967295 < low + x
        · exact ⟨carry out, low + x - 4294967296, r - x, by simp [Enc.part, hc], by omega, by omega, by omega, carry_length _⟩
        · exact ⟨out, low + x, r - x, by simp [Enc.part, hc], by omega, by omega, by omega, rfl⟩
    have C := hid (And.intro hcut hp)
    clear hcut hp
    go_wp2_with fail
    go_loopg [] 3 (fun k wr => EncLoop w b v (Enc.narrow ⟨out, low, r⟩ x u) k wr)
    case atStart =>
      obtain ⟨⟨he, ho⟩, o, l, r', e, h1, h2, h3, h4⟩ := C.out
      rw [e] at he
      refine ⟨v, o, l, r', he, ho, fun k hk => .inl hk, ?_, h1, h2, h3, by omega⟩
      unfold Enc.narrow
      rw [e]
    case round =>
      clear C E
      obtain ⟨v', out, low, r, he, ho, hf, hn, hr1, hr2, hlow, hol⟩ := hrel
      have h0 := he.blk.cell 0
      have h1 := he.blk.cell 1
      have h2 := he.blk.cell 2
      have f0 := he.blk.frozen 0
      have f1 := he.blk.frozen 1
      have f2 := he.blk.frozen 2
      simp [encCells] at h0 h1 h2
      have hap := enc_apart he
      have hown := he.own
      have hlt := he.blk.lt
      simp only at hown
      have H := hid (And.intro he (And.intro ho (And.intro hf hn)))
      have O := hid (And.intro hap hown)
      clear he ho hf hn hap hown
      by_cases hlt' : r < 16777216
      · have B := hid (And.intro hr1 hlt')
        have hlt'' : decide ((r : Int) < 16777216) = true := by simp; omega
        clear hr1 hlt'
        obtain ⟨i0, hi0, hz0, hz1, hz2⟩ := info_parts info_u8
        have q1 : IntKind.u64.wrap ((low : Int) / 16777216) = ((low / 16777216 : Nat) : Int) := div_u64 (a := low) 16777216 (by omega)
        have q2 : IntKind.u8.wrap ((low : Int) / 16777216) = ((UInt8.ofNat (low / 16777216)).toNat : Int) := by
          have := wu8 (low / 16777216)
          rw [show ((low / 16777216 : Nat) : Int) = (low : Int) / 16777216 from by omega] at this
          rw [this]
          simp
        generalize hq : UInt8.ofNat (low / 16777216) = q at *
        have Q := hid hq
        clear hq
        go_wp2
        go_cut [] (fun W => ∃ v2, EncAt W b v2 ⟨out ++ [q], low, r⟩ ∧ Only (Fp b v') wr W ∧ Fresh wr v' v2)
        case first =>
          clear hr2 q1 hlt''
          go_region_law
            (first
              | ((refine step_append_lies _ (by rfl) _ _ _ (by rfl) 0 5 i0 _ 1 1 Tryz.underlying53 hi0 hz0 hz1 hz2 rfl (by omega) v' out.length (out.map byteV) (by rfl) ((O.out.2.alloc _).drew) ⟨wr.heap.size, 0, none⟩ 1 1 [.int .u8 (q.toNat : Nat)] (by rfl) (by rfl) (World.news_of_block (cs := #[.int .u8 (q.toNat : Nat)]) (t := 5) (fr := (0, 0)) (heap_alloc_new wr _)) (by simp [Value.oneCell']) (by omega) (by unfold maxLen; omega) (by omega) (by omega) (wr.heap.size + 1) (by simp) ?_
                  intro gg cap w1 hown1 hgrow hat hlt1
                  have k0 := (hgrow.cell_far ⟨b, 0, none⟩ (by simp; omega) (Ne.symm O.out.1)).trans ((World.cell?_alloc_lt _ _ _ hlt).trans h0)
                  have g0 := (hgrow.frozen_far ⟨b, 0, none⟩ (by simp; omega) (Ne.symm O.out.1)).trans ((World.frozen?_alloc_old _ _ _ (Nat.ne_of_lt hlt)).trans f0))))
          all_goals
            go_wp2_with fail
            go_meet
            have hB := H.out.1.blk
            have hB1 : Blk w1 b 122 (encCells v' low r) := (hgrow.block b (by simp; omega) (Ne.symm O.out.1)).trans (hB.alloc _)
            have hgb : gg ≠ b := by
              intro e
              subst e
              rcases hat with h | h
              · exact O.out.1 h
              · omega
            refine ⟨.slice (some ⟨gg, 0, none⟩) (out.length + 1) cap, ⟨?_, ?_, ?_⟩, ?_, ?_⟩
            · simpa [encCells] using hB1.put 0 (.slice (some ⟨gg, 0, none⟩) (out.length + 1) cap)
            · have := own_far (b := b) (i := 0) (u := .slice (some ⟨gg, 0, none⟩) (out.length + 1) cap) hown1 (by simpa [Value.ownBlock] using hgb)
              simpa [byteV] using this
            · simp; omega
            · exact ((((Only.refl _ wr).alloc _).drew).grown hgrow (fun k hk _ => .inr hk)).put (.inl rfl) 0 _
            · intro k hk
              have hk' : gg = k := by simpa [Value.ownBlock] using hk
              subst hk'
              rcases hat with h | h
              · exact .inl h
              · exact .inr (by omega)
        case rest =>
          obtain ⟨v2, he2, ho2, hf2⟩ := hcut
          clear h0 h1 h2 f0 f1 f2 O
          have h1 := he2.blk.cell 1
          have h2 := he2.blk.cell 2
          have f1 := he2.blk.frozen 1
          have f2 := he2.blk.frozen 2
          simp [encCells] at h1 h2
          have e1 : IntKind.u64.wrap ((low : Int) * 256) = (low : Int) * 256 := wu64 (by omega) (by omega)
          have e2 : bits .and .u64 ((low : Int) * 256) 4294967295 = ((low * 256 % 4294967296 : Nat) : Int) := by
            have := and32_u64 (a := low * 256) (by omega)
            rw [show ((low * 256 : Nat) : Int) = (low : Int) * 256 from by omega] at this
            exact this
          have e3 := shl8_u64 (a := r) (by omega)
          have G := hid (And.intro he2 (And.intro ho2 hf2))
          clear he2 ho2 hf2 hr2 q1 q2
          go_wp2
          obtain ⟨he, ho, hf, hn⟩ := H.out
          obtain ⟨he2, ho2, hf2⟩ := G.out
          obtain ⟨k, rfl⟩ : ∃ k, gk = k + 1 := by
            cases gk with
            | zero => exact absurd B.out (by simp only [lowR]; omega)
            | succ k => exact ⟨k, rfl⟩
          have hl0 : (low * 256 % 4294967296) < 4294967296 := Nat.mod_lt _ (by omega)
          go_roundg k
          case measure => omega
          case rel =>
            refine ⟨v2, out ++ [q], low * 256 % 4294967296, r * 256, ?_, ?_, ?_, ?_, lowR_next B.out.1, by have := B.out; omega, by omega, by simp; omega⟩
            · have := enc_r (enc_low he2 (low * 256 % 4294967296)) (r * 256)
              simpa using this
            · exact (ho.then ho2 (fun i hi hs => by
                rcases hs with hs | hs
                · exact .inl hs
                · rcases hf i hs with h | h
                  · exact .inr h
                  · omega)).put (.inl rfl) 1 _ |>.put (.inl rfl) 2 _
            · intro i hi
              rcases hf2 i hi with h | h
              · exact hf i h
              · have := ho.size
                exact .inr (by omega)
            · rw [← hn]
              simp [Enc.norm, B.out.2, Enc.step, Q.out]
      · have hge : decide ((r : Int) < 16777216) = false := by simp; omega
        have B := hid hlt'
        clear hlt' hr1
        go_wp2
        go_end0
        obtain ⟨he, ho, hf, hn⟩ := H.out
        refine ⟨rfl, v', ?_, ho, hf⟩
        rw [← hn]
        cases gk with
        | zero => exact he
        | succ k => rw [Enc.norm, if_neg B.out]; exact he
end Go.Proofs.YtkkgpdejmcpcpaaGreatDoor

