/- Parts: XRacNew, XBackC. -/
import Derived.Test.YtkkgpdejmcpcpaaGreatDoorM01
import Derived.Test.YtkkgpdejmcpcpaaGreatDoorM05
import Derived.Test.YtkkgpdejmcpcpaaGreatDoorM06
import Derived.Test.YtkkgpdejmcpcpaaGreatDoorM04
/- CopyBytes; a new decoder, a new encoder. -/
namespace Go.Proofs.YtkkgpdejmcpcpaaGreatDoor
open Go.RowKit

theorem bys_of_own {w : World} {base g n cap : Nat} {bs : List UInt8} (h : w.ownsRow base 5 1 (.slice (some ⟨g, 0, none⟩) n cap) bs.length (bs.map byteV)) : Bys w g bs := by
  rcases h.2 with ⟨h1, _⟩ | ⟨g', c', cur, h1, _, h2, _, _, h5, h6⟩
  · cases h1
  · injection h1 with h1
    injection h1 with h1
    injection h1 with h1
    subst h1
    refine ⟨cur, h2, fun i hi => ?_⟩
    have e : (bs.map byteV)[i]? = cur[i]? := by
      rw [← h6, List.getElem?_take, if_pos (by omega)]
      simp
    rw [← e]
    simp [byteV, byteAt, hi, List.getD]

theorem own_fresh_form {w : World} {base n : Nat} {t : TypeId} {v : Value} {xs : List Value} (h : w.ownsRow base t 1 v n xs) (hv : v.ownBlock ≠ none) : ∃ g cap, v = .slice (some ⟨g, 0, none⟩) n cap ∧ base ≤ g ∧ g < w.heap.size := by
  rcases h.2 with ⟨rfl, _⟩ | ⟨g, cap, cur, rfl, hb, hg, _⟩
  · exact absurd rfl hv
  · exact ⟨g, cap, rfl, hb, (Array.getElem?_eq_some_iff.1 hg).1⟩

theorem below_drewN' {B : Nat} {a w : World} (h : Below B a w) (n : Nat) : Below B a (w.drewN n) := ⟨h.os, h.tape, h.output, h.size, h.block⟩
theorem only_of_below {w w' : World} {S : Nat → Prop} (h : Below w.heap.size w w') : Only S w w' := ⟨h.os, h.tape, h.output, h.size, fun k hk _ => h.block k hk⟩


def DecNew (w : World) (bs : List UInt8) (e : Ending) (w' : World) : Prop :=
  ∃ b g c, e = .returned (.pointer (some ⟨b, 0, none⟩)) ∧ DecAt w' b g c (Dec.new bs) ∧ w.heap.size ≤ b ∧ w.heap.size ≤ g ∧ Below w.heap.size w w'

set_option maxRecDepth 100000 in
set_option maxHeartbeats 400000 in
theorem new_decoder (x : Value) (bs : List UInt8) (w : World) (hx : From w 1 x bs.length (bs.map byteV)) (hl : bs.length ≤ 140737488355328) :
    Calls Tryz.prog 49 #[x] w (DecNew w bs) := by
  obtain ⟨i0, hi0, hz0, hz1, hz2⟩ := info_parts info_u8
  have X := hid hx
  clear hx
  have hfrom : From (w.alloc (.cells #[] 5)) 1 x bs.length (bs.map byteV) := by
    obtain ⟨A, c, h1, h2, h3⟩ := X.out
    refine ⟨A, c, h1, h2, fun h0 => ?_⟩
    obtain ⟨ad, h4, h5⟩ := h3 h0
    refine ⟨ad, h4, fun j u hu => ?_⟩
    have := h5 j u hu
    rw [World.cell?_alloc_lt _ _ _ (World.block_lt_of_cell? _ _ this)]
    exact this
  have F := hid hfrom
  clear hfrom
  go_enter Tryz.func49, Tryz.ntmps49
  go_wp2_with (at_builtin; refine wpList_append_form _ rfl _ _ _ rfl w.heap.size 5 i0 (.int .u8 0) 1 1 Tryz.underlying53 hi0 hz0 hz1 hz2 rfl (by omega) (.slice (some ⟨w.heap.size, 0, none⟩) 0 0) 0 [] rfl (World.ownsRow_lit w #[] 0 (Nat.le_refl _) (by unfold maxLen; omega) rfl) x bs.length (bs.map byteV) rfl F.out (one_bytes bs) (.inl (by simp [Value.ownBlock])) (by unfold maxLen; omega) (by omega) (by simp) bs.length (bs.map byteV) (by simp) (by simp) ?_; intro g cap w1 hown hgrow hat hlt)
  have hbl : Below w.heap.size w w1 := ((Below.refl _ _).alloc (Nat.le_refl _) _).grown hgrow (by simp) (fun k hk => by simp [Value.ownBlock] at hk; omega)
  have hg : w.heap.size ≤ g := by
    rcases hat with h | h
    · simp [Value.ownBlock] at h; omega
    · rw [h]; simp
  have hw1 : w.heap.size ≤ w1.heap.size := hbl.size
  have hd0 : DecAt (w1.alloc (.cells (decCells ⟨bs, 0, 0, 4294967295⟩ g cap) 146)) w1.heap.size g cap ⟨bs, 0, 0, 4294967295⟩ :=
    ⟨Blk.new _ _ _, (bys_of_own (base := w.heap.size) hown).only ((Only.refl (fun _ => False) w1).alloc _) (fun h => h), by show bs.length ≤ _; omega⟩
  have hb0 : Below w.heap.size w (w1.alloc (.cells (decCells ⟨bs, 0, 0, 4294967295⟩ g cap) 146)) := hbl.alloc hw1 _
  generalize hbd : w1.heap.size = b at *
  have Z := hid (And.intro hd0 (And.intro hb0 (And.intro hg hw1)))
  clear hd0 hb0 hg hw1 hbl hat hgrow hown hlt X F
  go_loopg [9] 4 (fun k i wr => ∃ j : Nat, j + k = 4 ∧ i = .int .i64 j ∧ DecAt wr b g cap ⟨bs, j, pre bs j, 4294967295⟩ ∧ Below w.heap.size w wr)
  case atStart => exact ⟨0, rfl, rfl, Z.out.1, Z.out.2.1⟩
  case round =>
    obtain ⟨j, hj, rfl, hd, hb⟩ := hrel
    have h2 := hd.blk.cell 2
    have f2 := hd.blk.frozen 2
    simp [decCells] at h2
    have H := hid (And.intro hd hb)
    clear hd hb
    by_cases hlt : j < 4
    · have hp := pre_lt bs j (by omega)
      have e3 := shl8_u64 (a := pre bs j) (by omega)
      have e5 := or8_u64 (a := pre bs j) (v := byteAt bs j) (by omega) (byteAt_lt _ _)
      go_wp2
      go_region_with (go_at_call 74; refine (next_any b g cap j bs (.int .u64 (pre bs j)) (.int .u64 (4294967295 : Nat)) _ (by exact H.out.1.blk) (by exact H.out.1.bys) (by omega) (by exact H.out.1.len)).mono ?_; rintro e w' ⟨rfl, m, rfl⟩)
      all_goals
        go_wp2
        go_roundg (gk - 1)
        case measure => omega
        case rel =>
          refine ⟨j + 1, by omega, by go_num, ⟨?_, ?_, H.out.1.len⟩, ?_⟩
          · have := (((H.out.1.blk.put 1 (.int .i64 (j + 1 : Nat))).drewN (1 + m)).put 2 (.int .u64 (pre bs (j + 1) : Nat)))
            simpa [decCells, pre] using this
          · exact H.out.1.bys.only (S := (· = b)) ((((Only.refl _ _).put (by rfl) 1 _).drewN _).put (by rfl) 2 _) H.out.1.ne.symm
          · exact ((below_drewN' (H.out.2.setCell (p := ⟨b, 1, none⟩) Z.out.2.2.2 _) _)).setCell (p := ⟨b, 2, none⟩) Z.out.2.2.2 _
    · obtain rfl : j = 4 := by omega
      go_wp2
      go_ret
      exact ⟨b, g, cap, rfl, H.out.1, Z.out.2.2.2, Z.out.2.2.1, H.out.2⟩

def Enc.new : Enc := ⟨[], 0, 4294967295⟩
def EncNew (w : World) (e : Ending) (w' : World) : Prop :=
  e = .returned (.pointer (some ⟨w.heap.size, 0, none⟩)) ∧ EncAt w' w.heap.size (.slice none 0 0) Enc.new ∧ Below w.heap.size w w'
theorem new_encoder (w : World) : Calls Tryz.prog 27 #[] w (EncNew w) := by
  have hE : EncAt (w.alloc (.cells (encCells (.slice none 0 0) 0 4294967295) 122)) w.heap.size (.slice none 0 0) Enc.new := ⟨Blk.new _ _ _, World.ownsRow_nil _ _ _ _, by simp [Enc.new]⟩
  have hB : Below w.heap.size w (w.alloc (.cells (encCells (.slice none 0 0) 0 4294967295) 122)) := (Below.refl _ _).alloc (Nat.le_refl _) _
  have H := hid (And.intro hE hB)
  clear hE hB
  go_enter Tryz.func27, Tryz.ntmps27
  go_wp2
  go_ret
  exact ⟨rfl, H.out.1, H.out.2⟩

theorem enc_narrow_at (b x : Nat) (y : Int) (hy : y = (x : Nat)) (v : Value) (u : Bool) (e : Enc) (w : World) (he : EncAt w b v e) (ho : e.Ok 1000000000) (hx1 : 1 ≤ x) (hx2 : x < e.r) :
    Calls Tryz.prog 128 #[.pointer (some ⟨b, 0, none⟩), .int .u64 y, .bool u] w fun y w' => y = .returned (.tuple #[]) ∧ EncMoved w b v (e.narrow x u) w' := by
  subst hy
  obtain ⟨out, low, r⟩ := e
  exact enc_narrow b x v u out low r w he hx1 hx2 ho.r1 ho.low ho.len

set_option maxHeartbeats 400000 in
theorem enc_flat (b : Nat) (v : Value) (u : Bool) (e : Enc) (w : World) (he : EncAt w b v e) (ho : e.Ok 1000000000) :
    Calls Tryz.prog 126 #[.pointer (some ⟨b, 0, none⟩), .bool u] w fun y w' => y = .returned (.tuple #[]) ∧ EncMoved w b v (e.narrow (e.r / 2) u) w' := by
  have h2 := he.blk.cell 2
  simp [encCells] at h2
  have D := hid (And.intro he ho)
  have hr0 := ho.r0
  have hr1 := ho.r1
  clear he ho
  generalize hr : e.r = r at *
  have R := hid hr
  clear hr
  have B := hid (And.intro hr0 hr1)
  have wq : IntKind.u64.wrap ((r : Int) / 2) = (r : Int) / 2 := wu64 (by omega) (by omega)
  clear hr0 hr1
  go_enter Tryz.func126, Tryz.ntmps126
  go_wp2_with fail
  refine (enc_narrow_at b (r / 2) _ (by omega) v u e _ D.out.1 D.out.2 (by have := B.out; omega) (by rw [R.out]; have := B.out; omega)).mono ?_
  rintro y w' ⟨rfl, hp⟩
  have P := hid hp
  clear hp
  go_wp2
  go_end0
  exact ⟨rfl, P.out⟩

set_option maxHeartbeats 400000 in
theorem enc_code_no (b : Nat) (p : Int) (u : Bool) (w : World) (h : p < 1 ∨ 2047 < p) :
    Calls Tryz.prog 124 #[.pointer (some ⟨b, 0, none⟩), .int .i64 p, .bool u] w fun e w' => e = .returned (.iface 43 (.int .i64 3)) ∧ w = w' := by
  go_enter Tryz.func124, Tryz.ntmps124
  go_wp2_with (go_at_call 127; refine (chance_no p _ h).mono ?_; rintro e w' ⟨rfl, rfl⟩)
  go_ret
  exact ⟨rfl, rfl⟩

set_option maxHeartbeats 400000 in
theorem enc_code (b p : Nat) (v : Value) (u : Bool) (e : Enc) (w : World) (he : EncAt w b v e) (ho : e.Ok 1000000000) (h1 : 1 ≤ p) (h2 : p ≤ 2047) :
    Calls Tryz.prog 124 #[.pointer (some ⟨b, 0, none⟩), .int .i64 p, .bool u] w fun y w' => y = .returned .nilIface ∧ EncMoved w b v (e.narrow (e.r / 2048 * p) u) w' := by
  have h3 := he.blk.cell 2
  simp [encCells] at h3
  have D := hid (And.intro he ho)
  have hr0 := ho.r0
  have hr1 := ho.r1
  clear he ho
  generalize hr : e.r = r at *
  have R := hid hr
  clear hr
  have B := hid (And.intro hr0 hr1)
  have wq : IntKind.u64.wrap ((r : Int) / 2048) = (r : Int) / 2048 := wu64 (by omega) (by omega)
  clear hr0 hr1
  have hm : 1 ≤ r / 2048 * p ∧ r / 2048 * p < r := by
    have := B.out
    have hq : 8192 ≤ r / 2048 := by omega
    constructor
    · exact Nat.mul_pos (by omega) h1
    · have : r / 2048 * p ≤ r / 2048 * 2047 := Nat.mul_le_mul_left _ h2
      omega
  have M := hid hm
  clear hm
  have w1 : IntKind.u64.wrap (p : Int) = (p : Int) := wu64 (by omega) (by omega)
  have w2 : IntKind.u64.wrap ((r : Int) / 2048 * (p : Int)) = ((r / 2048 * p : Nat) : Int) := by
    have e : ((r : Int) / 2048 * (p : Int)) = ((r / 2048 * p : Nat) : Int) := by simp
    rw [e]
    have := M.out
    have := B.out
    exact wu64 (by omega) (by omega)
  go_enter Tryz.func124, Tryz.ntmps124
  go_wp2_with (go_at_call 127; refine (chance_yes p _ (by omega) (by omega)).mono ?_; rintro e w' ⟨rfl, rfl⟩)
  refine (enc_narrow_at b (r / 2048 * p) _ (by simp) v u e _ D.out.1 D.out.2 M.out.1 (by rw [R.out]; exact M.out.2)).mono ?_
  rintro y w' ⟨rfl, hp⟩
  have P := hid hp
  clear hp
  go_wp2
  go_ret
  exact ⟨rfl, P.out⟩
end Go.Proofs.YtkkgpdejmcpcpaaGreatDoor

/- Plain: what a writer was told a reader tells: one bit. -/
namespace Go.Proofs.YtkkgpdejmcpcpaaGreatDoor

theorem Track.new (f : Enc) : Track f (Dec.new f.bytes) Enc.new := ⟨rfl, rfl, rfl, by show Go.Proofs.YtkkgpdejmcpcpaaGreatDoor.pre f.bytes 4 + val [0, 0, 0, 0] = _; simp [val, valR]; rfl⟩
theorem Enc.new_V : Enc.new.V = 0 := by show val [0, 0, 0, 0] = 0; simp [val, valR]
theorem fit_new : Enc.new.Fit := ⟨by show 0 ≤ _; omega, by rw [Enc.new_V]; show 0 + 4294967295 ≤ 256 ^ 4; omega⟩

structure GoodW (s : Wr) : Prop where
  P : POk s.P
  r0 : 16777216 ≤ s.e.r
  r1 : s.e.r ≤ 4294967295
  fit : s.e.Fit
structure Tr (f : Enc) (s : Wr) (t : Rd) : Prop where
  P : s.P = t.P
  d : Track f t.d s.e
/-- One operation of a writer, and the like of a reader. -/
def Bk {α : Type} (f : Enc) (s : Wr) (t : Rd) (x : α × Wr) (y : α × Rd) : Prop :=
  GoodW s → Inside s.e x.2.e ∧ GoodW x.2 ∧ (Tr f s t → Inside x.2.e f → x.1 = y.1 ∧ Tr f x.2 y.2)
section
variable {α β : Type} {f : Enc} {s : Wr} {t : Rd}
theorem Bk.ret (a : α) : Bk f s t (a, s) (a, t) := fun h => ⟨Inside.refl _, h, fun ht _ => ⟨rfl, ht⟩⟩
theorem Bk.seq {x : α × Wr} {y : α × Rd} (k : α → Wr → β × Wr) (k' : α → Rd → β × Rd) (h : Bk f s t x y) (hk : ∀ a, Bk f x.2 y.2 (k a x.2) (k' a y.2)) : Bk f s t (k x.1 x.2) (k' y.1 y.2) := by
  intro hs
  obtain ⟨h1, h2, h3⟩ := h hs
  obtain ⟨g1, g2, g3⟩ := hk x.1 h2
  refine ⟨h1.trans g1, g2, fun ht hi => ?_⟩
  obtain ⟨e, ht'⟩ := h3 ht (g1.trans hi)
  have := g3 ht' hi
  rw [← e]
  exact this
theorem Bk.map {x : α × Wr} {y : α × Rd} (g : α → β) (h : Bk f s t x y) : Bk f s t (g x.1, x.2) (g y.1, y.2) := by
  intro hs
  obtain ⟨h1, h2, h3⟩ := h hs
  refine ⟨h1, h2, fun ht hi => ?_⟩
  obtain ⟨e, ht'⟩ := h3 ht hi
  exact ⟨by rw [e], ht'⟩
theorem Bk.bit (hf : 1 ≤ f.r) (c : Nat) (hc : c < 64) (u u' : Bool) : Bk f s t (wrM.bit s c u) (rdM.bit t c u') := by
  intro hs
  have hsh := share_ok (p := s.P.getD c 0) hs.r0 (by have := hs.P.lo c hc; omega) (by have := hs.P.hi c hc; omega)
  have hn := Enc.narrow_fit hs.fit _ hsh.2 hs.r1 u
  have hk := Enc.narrow_ok (e := s.e) (lim := s.e.out.length) ⟨hs.r0, hs.r1, hs.fit.low, Nat.le_refl _⟩ hsh.1 hsh.2 u
  refine ⟨hn.2, ⟨hs.P.learn c hc u, hk.r0, hk.r1, hn.1⟩, fun ht hi => ?_⟩
  have hb := ht.d.narrow hs.fit hf _ hsh.2 hs.r1 u hi
  have ev : t.d.r / 2048 * t.P.getD c 0 = s.e.r / 2048 * s.P.getD c 0 := by rw [ht.d.r, ht.P]
  show u = t.d.bit (t.d.r / 2048 * t.P.getD c 0) ∧ Tr f _ ⟨learnAt t.P c (t.d.bit (t.d.r / 2048 * t.P.getD c 0)), t.d.narrow (t.d.r / 2048 * t.P.getD c 0)⟩
  rw [ev, hb.1]
  exact ⟨rfl, ⟨by show learnAt s.P c u = learnAt t.P c u; rw [ht.P], hb.2⟩⟩
theorem Bk.flat (hf : 1 ≤ f.r) (u u' : Bool) : Bk f s t (wrM.flat s u) (rdM.flat t u') := by
  intro hs
  have h1 : 1 ≤ s.e.r / 2 := by have := hs.r0; omega
  have h2 : s.e.r / 2 < s.e.r := by have := hs.r0; omega
  have hn := Enc.narrow_fit hs.fit _ h2 hs.r1 u
  have hk := Enc.narrow_ok (e := s.e) (lim := s.e.out.length) ⟨hs.r0, hs.r1, hs.fit.low, Nat.le_refl _⟩ h1 h2 u
  refine ⟨hn.2, ⟨hs.P, hk.r0, hk.r1, hn.1⟩, fun ht hi => ?_⟩
  have hb := ht.d.narrow hs.fit hf _ h2 hs.r1 u hi
  have ev : t.d.r / 2 = s.e.r / 2 := by rw [ht.d.r]
  show u = t.d.bit (t.d.r / 2) ∧ Tr f _ ⟨t.P, t.d.narrow (t.d.r / 2)⟩
  rw [ev, hb.1]
  exact ⟨rfl, ⟨ht.P, hb.2⟩⟩
end
end Go.Proofs.YtkkgpdejmcpcpaaGreatDoor

