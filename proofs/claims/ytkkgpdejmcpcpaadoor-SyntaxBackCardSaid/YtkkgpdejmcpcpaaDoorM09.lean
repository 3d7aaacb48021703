/- Parts: XCoefL, XRefDec, XRefDecMore, XEncEnd, XRefEnc. -/
import Derived.Test.YtkkgpdejmcpcpaaDoorM02
import Derived.Test.YtkkgpdejmcpcpaaDoorM03
import Derived.Test.YtkkgpdejmcpcpaaDoorM08
import Derived.Test.YtkkgpdejmcpcpaaDoorM07
/- Chapter 14: lists of numbers: a function value that tells; IndexFunc, ContainsFunc, Within, Zero, Check; shifts. -/
namespace Go.Proofs.YtkkgpdejmcpcpaaDoor
open Go.RowKit

theorem and_one_gen (x : Int) : bits BinOp.and IntKind.i64 x 1 = x % 2 := by
  unfold bits
  show IntKind.i64.wrap ((BitVec.ofInt 64 x &&& BitVec.ofInt 64 1).toNat : Int) = x % 2
  have h : (BitVec.ofInt 64 x &&& BitVec.ofInt 64 1).toNat = (x % 2).toNat := by
    rw [BitVec.toNat_and, BitVec.toNat_ofInt, show (BitVec.ofInt 64 1).toNat = 1 from rfl, Nat.and_one_is_mod]
    have : (0 : Int) ≤ x % (2 ^ 64 : Nat) := Int.emod_nonneg _ (by decide)
    omega
  rw [h]
  have hc : x % 2 = 0 ∨ x % 2 = 1 := by omega
  rcases hc with h | h <;> rw [h] <;> rfl
theorem wrap_pow (z : Nat) (hk : z ≤ 12) : IntKind.i64.wrap (2 * 2 ^ z) = ((2 ^ (z + 1) : Nat) : Int) := by
  have h : z = 0 ∨ z = 1 ∨ z = 2 ∨ z = 3 ∨ z = 4 ∨ z = 5 ∨ z = 6 ∨ z = 7 ∨ z = 8 ∨ z = 9 ∨ z = 10 ∨ z = 11 ∨ z = 12 := by omega
  rcases h with rfl | rfl | rfl | rfl | rfl | rfl | rfl | rfl | rfl | rfl | rfl | rfl | rfl <;> rfl
theorem wrap_pow1 (z : Nat) (hk : z ≤ 12) : IntKind.i64.wrap (1 * 2 ^ (z + 1)) = ((2 ^ (z + 1) : Nat) : Int) := by
  have h : z = 0 ∨ z = 1 ∨ z = 2 ∨ z = 3 ∨ z = 4 ∨ z = 5 ∨ z = 6 ∨ z = 7 ∨ z = 8 ∨ z = 9 ∨ z = 10 ∨ z = 11 ∨ z = 12 := by omega
  rcases h with rfl | rfl | rfl | rfl | rfl | rfl | rfl | rfl | rfl | rfl | rfl | rfl | rfl <;> rfl
/-- A function value that tells p and changes nothing. -/
structure Tells (g : FuncId) (p : Int → Bool) : Prop where
  call : ∀ (x : Value) (w : World), (callFunc g #[x]).run Tryd.prog w = .ok (.enter g #[x]) w
  ans : ∀ (v : Int) (w : World), Calls Tryd.prog g #[.int .i64 v] w fun e w' => e = .returned (.bool (p v)) ∧ w' = w
set_option maxRecDepth 100000 in
set_option maxHeartbeats 1000000 in
theorem index_any (g : FuncId) (p : Int → Bool) (ht : Tells g p) (x : Value) (l : List Int) (w : World) (hx : Nums w x l) (hl : l.length ≤ 1000000000) :
    Calls Tryd.prog 71 #[x, .func (.func g) #[] #[]] w fun e w' => ∃ m : Int, e = .returned (.int .i64 m) ∧ w' = w ∧ decide (0 ≤ m) = l.any p := by
  obtain ⟨A, c, rfl, _⟩ := hx.form
  have X := hid (And.intro hx hl)
  have hcf := ht.call
  have HA := hid ht.ans
  clear hx hl ht
  go_enter Tryd.func71, Tryd.ntmps71
  go_wp2_with fail
  go_loopg [8] l.length (fun k iv wr => ∃ i : Nat, i + k = l.length ∧ iv = .int .i64 i ∧ (∀ j v, j < i → l[j]? = some v → p v = false) ∧ w = wr)
  case atStart => exact ⟨0, by omega, rfl, fun j v hj => by omega, rfl⟩
  case round =>
    obtain ⟨i, hi, rfl, hall, rfl⟩ := hrel
    have hl := X.out.2
    by_cases hlt : i < l.length
    · obtain ⟨v, hv⟩ : ∃ v, l[i]? = some v := ⟨l[i], List.getElem?_eq_getElem hlt⟩
      obtain ⟨b0, o0, rfl, _, p0⟩ := X.out.1.at_ hv
      have k0 : (0 : Int) ≤ (i : Int) := by omega
      have k1 : (i : Int) < (l.length : Int) := by omega
      have d1 : decide ((i : Int) < (l.length : Int)) = true := by simp; omega
      have d2 : decide (i < l.length) = true := by simp; omega
      have FF := hid (And.intro hi (And.intro hlt (And.intro hall hv)))
      clear hi hlt hall hv
      go_wp2_with fail
      refine (HA.out v _).mono ?_
      rintro e w2 ⟨rfl, rfl⟩
      cases hq : p v with
      | true =>
        have HQ := hid hq
        clear hq
        go_wp2_with fail
        go_ret
        refine ⟨(i : Int), rfl, rfl, ?_⟩
        have h1 : l.any p = true := List.any_eq_true.2 ⟨v, List.mem_of_getElem? FF.out.2.2.2, HQ.out⟩
        rw [h1]
        simp
      | false =>
        have HQ := hid hq
        clear hq
        go_wp2_with fail
        go_roundg (gk - 1)
        case measure => have := FF.out.1; have := FF.out.2.1; omega
        case rel =>
          refine ⟨i + 1, by have := FF.out.1; have := FF.out.2.1; omega, by go_num, ?_, rfl⟩
          intro j u hj hu
          rcases Nat.lt_or_ge j i with h1 | h1
          · exact FF.out.2.2.1 j u h1 hu
          · obtain rfl : j = i := by omega
            rw [FF.out.2.2.2] at hu
            injection hu with hu
            subst hu
            exact HQ.out
    · obtain rfl : i = l.length := by omega
      have d1 : decide ((l.length : Int) < (l.length : Int)) = false := by simp
      have HA2 := hid hall
      clear hall hlt hi
      go_wp2_with fail
      go_ret
      refine ⟨-1, rfl, rfl, ?_⟩
      have h1 : l.any p = false := by
        rw [Bool.eq_false_iff]
        intro h
        obtain ⟨v, hv, hp⟩ := List.any_eq_true.1 h
        obtain ⟨j, hj⟩ := List.mem_iff_getElem?.1 hv
        rw [HA2.out j v (List.getElem?_eq_some_iff.1 hj).1 hj] at hp
        exact Bool.noConfusion hp
      rw [h1]
      rfl
set_option maxRecDepth 100000 in
theorem contains_any (g : FuncId) (p : Int → Bool) (ht : Tells g p) (x : Value) (l : List Int) (w : World) (hx : Nums w x l) (hl : l.length ≤ 1000000000) :
    Calls Tryd.prog 61 #[x, .func (.func g) #[] #[]] w fun e w' => e = .returned (.bool (l.any p)) ∧ w' = w := by
  have H := hid (index_any g p ht x l w hx hl)
  clear hx hl ht
  go_enter Tryd.func61, Tryd.ntmps61
  go_wp2_with fail
  refine H.out.mono ?_
  rintro e w2 ⟨m, rfl, rfl, hm⟩
  have HM := hid hm
  clear hm
  go_wp2_with fail
  go_ret
  rw [← HM.out]
  exact ⟨rfl, rfl⟩
set_option maxRecDepth 100000 in
theorem tells_out : Tells 72 lvOut where
  call := fun _ _ => by kernel_rfl
  ans := by
    intro v w
    have h1 : decide (v < -16320) = true ∨ decide (v < -16320) = false := by cases decide (v < -16320) <;> simp
    have HL := hid (show lvOut v = (decide (v < -16320) || decide (16320 < v)) from rfl)
    rcases h1 with h1 | h1
    all_goals
      rw [h1] at HL
      go_enter Tryd.func72, Tryd.ntmps72
      go_wp2_with fail
      go_ret
      rw [HL.out]
      exact ⟨rfl, rfl⟩
set_option maxRecDepth 100000 in
theorem tells_nonzero : Tells 73 (fun v => decide (v ≠ 0)) where
  call := fun _ _ => by kernel_rfl
  ans := by
    intro v w
    go_enter Tryd.func73, Tryd.ntmps73
    go_wp2_with fail
    go_ret
    refine ⟨?_, rfl⟩
    congr 2
    by_cases h : v = 0 <;> simp [h]
set_option maxRecDepth 100000 in
theorem zero_any (x : Value) (l : List Int) (w : World) (hx : Nums w x l) (hl : l.length ≤ 1000000000) :
    Calls Tryd.prog 66 #[x] w fun e w' => e = .returned (.bool (!notZ l)) ∧ w' = w := by
  have H := hid (contains_any _ _ tells_nonzero x l w hx hl)
  have HZ := hid (show notZ l = l.any (fun v => decide (v ≠ 0)) from rfl)
  clear hx hl
  go_enter Tryd.func66, Tryd.ntmps66
  go_wp2_with fail
  refine H.out.mono ?_
  rintro e w2 ⟨rfl, rfl⟩
  rw [← HZ.out]
  go_wp2_with fail
  go_ret
  exact ⟨rfl, rfl⟩
/-- What is wrong with levels. -/
def checkNo (l : List Int) : Int := if l.length ≠ 16 ∧ l.length ≠ 64 then 14 else if l.any lvOut then 3 else 0
theorem within_out (l : List Int) : (l.all fun v => decide (-16320 ≤ v) && decide (v ≤ 16320)) = !l.any lvOut := by
  rw [Bool.eq_iff_iff]
  simp only [Bool.not_eq_true', List.all_eq_true, Bool.and_eq_true, decide_eq_true_eq]
  constructor
  · intro h
    rw [Bool.eq_false_iff]
    intro h2
    obtain ⟨v, hv, hp⟩ := List.any_eq_true.1 h2
    have := h v hv
    unfold lvOut at hp
    simp only [Bool.or_eq_true, decide_eq_true_eq] at hp
    omega
  · intro h v hv
    have : lvOut v = false := by
      rw [Bool.eq_false_iff]
      intro h2
      have := List.any_eq_true.2 ⟨v, hv, h2⟩
      rw [h] at this
      exact Bool.noConfusion this
    exact lvOut_false this
theorem rzero_eq (l : List Int) : (l.all fun v => decide ((0 : Int) ≤ v) && decide (v ≤ (0 : Int))) = !notZ l := by
  unfold notZ
  rw [Bool.eq_iff_iff]
  simp only [Bool.not_eq_true', List.all_eq_true, Bool.and_eq_true, decide_eq_true_eq]
  constructor
  · intro h
    rw [Bool.eq_false_iff]
    intro h2
    obtain ⟨v, hv, hp⟩ := List.any_eq_true.1 h2
    have := h v hv
    simp only [ne_eq, decide_eq_true_eq] at hp
    omega
  · intro h v hv
    have : v = 0 := by
      apply Classical.byContradiction
      intro h2
      have := (List.any_eq_true (p := fun v : Int => decide (v ≠ 0))).2 ⟨v, hv, decide_eq_true h2⟩
      rw [h] at this
      exact Bool.noConfusion this
    omega
set_option maxRecDepth 100000 in
set_option maxHeartbeats 1000000 in
theorem check_any (x : Value) (l : List Int) (w : World) (hx : Nums w x l) (hl : l.length ≤ 1000000000) :
    Calls Tryd.prog 63 #[x] w fun e w' => e = .returned (codeV (checkNo l)) ∧ w' = w := by
  obtain ⟨A, c, rfl, _⟩ := hx.form
  have H := hid (contains_any _ _ tells_out (.slice A l.length c) l w hx hl)
  clear hx
  have hcase : ((((l.length : Int) != 16) = true ∧ ((l.length : Int) != 64) = true) ∧ checkNo l = 14) ∨ (((((l.length : Int) != 16) = true ∧ ((l.length : Int) != 64) = false) ∨ ((l.length : Int) != 16) = false) ∧ checkNo l = if l.any lvOut then 3 else 0) := by
    unfold checkNo
    simp only [bne_iff_ne, ne_eq, bne_eq_false_iff_eq]
    by_cases h1 : l.length = 16
    · right; refine ⟨.inr (by omega), ?_⟩; rw [if_neg (by omega)]
    · by_cases h2 : l.length = 64
      · right; refine ⟨.inl ⟨by omega, by omega⟩, ?_⟩; rw [if_neg (by omega)]
      · left; refine ⟨⟨by omega, by omega⟩, ?_⟩; rw [if_pos ⟨h1, h2⟩]
  rcases hcase with ⟨⟨h1, h2⟩, hk⟩ | ⟨h1, hk⟩
  · rw [hk, show codeV 14 = .iface 33 (.int .i64 14) from rfl]
    clear hk H
    go_enter Tryd.func63, Tryd.ntmps63
    go_wp2_with fail
    go_ret
    exact ⟨rfl, rfl⟩
  · have hq : (l.any lvOut = true ∧ codeV (checkNo l) = .iface 33 (.int .i64 3)) ∨ (l.any lvOut = false ∧ codeV (checkNo l) = .nilIface) := by
      rw [hk]
      cases l.any lvOut
      · exact .inr ⟨rfl, rfl⟩
      · exact .inl ⟨rfl, rfl⟩
    clear hk
    rcases hq with ⟨hq, hv⟩ | ⟨hq, hv⟩
    all_goals
      rw [hv]
      rw [hq] at H
      clear hv hq
      rcases h1 with ⟨h1, h2⟩ | h1
      all_goals
        go_enter Tryd.func63, Tryd.ntmps63
        go_wp2_with fail
        refine H.out.mono ?_
        rintro e w2 ⟨rfl, rfl⟩
        go_wp2_with fail
        go_ret
        exact ⟨rfl, rfl⟩
set_option maxRecDepth 100000 in
theorem base4 (w : World) : Calls Tryd.prog 64 #[.int .i64 4] w fun e w' => e = .returned (.int .i64 14) ∧ w' = w := by
  go_enter Tryd.func64, Tryd.ntmps64
  go_wp2_with fail
  go_ret
  exact ⟨rfl, rfl⟩
set_option maxRecDepth 100000 in
theorem base8 (w : World) : Calls Tryd.prog 64 #[.int .i64 8] w fun e w' => e = .returned (.int .i64 39) ∧ w' = w := by
  go_enter Tryd.func64, Tryd.ntmps64
  go_wp2_with fail
  go_ret
  exact ⟨rfl, rfl⟩
end Go.Proofs.YtkkgpdejmcpcpaaDoor

/- The document's decoder: its functions. -/
namespace Go.Proofs.YtkkgpdejmcpcpaaDoor
open Go.RowKit

def rdecCells (d : Dec) (g c : Nat) : Array Value := #[.slice (some ⟨g, 0, none⟩) d.bs.length c, .int .i64 (d.at_ : Nat), .int .i64 (d.off : Nat), .int .i64 (d.r : Nat)]
end Go.Proofs.YtkkgpdejmcpcpaaDoor

/- The document's decoder: Code, NewDecoder; Fail. -/
namespace Go.Proofs.YtkkgpdejmcpcpaaDoor
open Go.RowKit

def errV (c : Int) : Value := .agg #[.int .i64 c, .slice none 0 0]

theorem below_only {S : Nat → Prop} {w w' : World} (h : Below w.heap.size w w') : Only S w w' := ⟨h.os, h.tape, h.output, h.size, fun k hk _ => h.block k hk⟩

/-- i bytes more. -/
def rnexts : Nat → Dec → Dec
  | 0, d => d
  | i + 1, d => (rnexts i d).rnext
theorem rnexts_at (i : Nat) (d : Dec) : (rnexts i d).at_ = d.at_ + i ∧ (d.off ≤ 1099511627776 → (rnexts i d).off ≤ 1099511627776) := by
  induction i with
  | zero => exact ⟨rfl, fun h => h⟩
  | succ i ih => exact ⟨by simp only [rnexts, Dec.rnext, ih.1]; omega, fun _ => by simp only [rnexts, Dec.rnext]; omega⟩

end Go.Proofs.YtkkgpdejmcpcpaaDoor

/- The encoder's End. -/
namespace Go.Proofs.YtkkgpdejmcpcpaaDoor
open Go.RowKit

theorem trim_snoc (l : List UInt8) (x : UInt8) : trim (l ++ [x]) = if x = 0 then trim l else l ++ [x] := by
  unfold trim
  rw [List.reverse_append]
  simp only [List.reverse_cons, List.reverse_nil, List.nil_append, List.singleton_append, trimRev]
  split
  · rfl
  · simp
theorem trim_nil : trim [] = [] := rfl

theorem Blk.newAt {n : Nat} (w : World) (t : TypeId) (cs : Array Value) (hn : n = w.heap.size) : Blk (w.alloc (.cells cs t)) n t cs := by subst hn; exact Blk.new w t cs
theorem own_lit_at {base n : Nat} {t : TypeId} (w : World) (hn : n = w.heap.size) (hb : base ≤ n) : (w.alloc (.cells #[] t)).ownsRow base t 1 (.slice (some ⟨n, 0, none⟩) 0 0) 0 [] := by subst hn; exact World.ownsRow_lit w #[] 0 hb (by unfold maxLen; omega) rfl
theorem grown_blk {w w1 : World} {row : Option Nat} {B : Nat} {t : TypeId} {cs : Array Value} (h : w.grownBy w1 row) (hb : Blk w B t cs) (hne : some B ≠ row) : Blk w1 B t cs := (h.block B hb.lt hne).trans hb

theorem own_pop {w : World} {base g n cap : Nat} {t : TypeId} {xs : List Value} {x : Value} (h : w.ownsRow base t 1 (.slice (some ⟨g, 0, none⟩) (n + 1) cap) (n + 1) (xs ++ [x])) : w.ownsRow base t 1 (.slice (some ⟨g, 0, none⟩) n cap) n xs := by
  have hlen : xs.length = n := by have := h.1; simp at this; omega
  rcases h.2 with ⟨h1, _⟩ | ⟨g', c', cur, h1, hb, h2, h3, h4, h5, h6⟩
  · cases h1
  · injection h1 with h1 _ h1c
    injection h1 with h1
    injection h1 with h1
    subst h1 h1c
    refine ⟨by omega, .inr ⟨g, cap, cur, rfl, hb, h2, by omega, h4, h5, ?_⟩⟩
    have : (cur.toList.take ((n + 1) * 1)).take n = (xs ++ [x]).take n := by rw [h6]
    rw [List.take_take, List.take_left' hlen] at this
    rw [← this]
    congr 1
    omega

def fourV (low : Nat) : Array Value := #[.int .u8 ((UInt8.ofNat (low / 16777216)).toNat : Nat), .int .u8 ((UInt8.ofNat (low / 65536)).toNat : Nat), .int .u8 ((UInt8.ofNat (low / 256)).toNat : Nat), .int .u8 ((UInt8.ofNat low).toNat : Nat)]
theorem byte_of (n k : Nat) : IntKind.u8.wrap ((n : Int) / (k : Int)) = (((UInt8.ofNat (n / k)).toNat : Nat) : Int) := by
  have := wu8 (n / k)
  rw [show ((n / k : Nat) : Int) = (n : Int) / (k : Int) from by simp] at this
  rw [this]
  simp

def EndRel (w0 : World) (l : List UInt8) (k : Nat) (v : Value) (wr : World) : Prop :=
  ∃ (g cap n : Nat) (m : List UInt8), k = n ∧ m.length = n ∧ v = .slice (some ⟨g, 0, none⟩) n cap ∧ wr.ownsRow w0.heap.size 5 1 (.slice (some ⟨g, 0, none⟩) n cap) n (m.map byteV) ∧ Below w0.heap.size w0 wr ∧ trim m = trim l ∧ n ≤ 1000000020

set_option maxRecDepth 100000 in
set_option maxHeartbeats 800000 in
theorem enc_end (b : Nat) (v : Value) (e : Enc) (w : World) (he : EncAt w b v e) (hl : e.out.length ≤ 1000000010) (hlow : e.low ≤ 4294967295) :
    Calls Tryd.prog 44 #[.pointer (some ⟨b, 0, none⟩)] w fun y w' => ∃ g cap, y = .returned (.slice (some ⟨g, 0, none⟩) e.bytes.length cap) ∧ w'.ownsRow w.heap.size 5 1 (.slice (some ⟨g, 0, none⟩) e.bytes.length cap) e.bytes.length (e.bytes.map byteV) ∧ Below w.heap.size w w' := by
  obtain ⟨out, low, r⟩ := e
  obtain ⟨i0, hi0, hz0, hz1, hz2⟩ := info_parts info_u8
  have h0 := he.blk.cell 0
  have h1 := he.blk.cell 1
  simp [encCells] at h0 h1
  have hlt := he.blk.lt
  have E := hid he
  have hll : out.length ≤ 1000000010 := hl
  have hlow' : low ≤ 4294967295 := hlow
  clear he hl hlow
  have q1 : IntKind.u64.wrap ((low : Int) / 16777216) = (low : Int) / 16777216 := wu64 (by omega) (by omega)
  have q2 : IntKind.u64.wrap ((low : Int) / 65536) = (low : Int) / 65536 := wu64 (by omega) (by omega)
  have q3 : IntKind.u64.wrap ((low : Int) / 256) = (low : Int) / 256 := wu64 (by omega) (by omega)
  have p1 : IntKind.u8.wrap ((low : Int) / 16777216) = (((UInt8.ofNat (low / 16777216)).toNat : Nat) : Int) := byte_of low 16777216
  have p2 : IntKind.u8.wrap ((low : Int) / 65536) = (((UInt8.ofNat (low / 65536)).toNat : Nat) : Int) := byte_of low 65536
  have p3 : IntKind.u8.wrap ((low : Int) / 256) = (((UInt8.ofNat (low / 256)).toNat : Nat) : Int) := byte_of low 256
  have p4 := wu8 low
  rw [show low % 256 = (UInt8.ofNat low).toNat from by simp] at p4
  have hfour : four low = [UInt8.ofNat (low / 16777216), UInt8.ofNat (low / 65536), UInt8.ofNat (low / 256), UInt8.ofNat low] := rfl
  generalize UInt8.ofNat (low / 16777216) = c1 at *
  generalize UInt8.ofNat (low / 65536) = c2 at *
  generalize UInt8.ofNat (low / 256) = c3 at *
  generalize UInt8.ofNat low = c4 at *
  have HF := hid hfour
  clear hfour
  go_enter Tryd.func44, Tryd.ntmps44
  go_wp2
  go_cut [3] (fun s W => ∃ g cap, s = .slice (some ⟨g, 0, none⟩) (out.length + 4) cap ∧ W.ownsRow w.heap.size 5 1 s (out ++ four low).length ((out ++ four low).map byteV) ∧ Below w.heap.size w W)
  case first =>
    go_region_held3 (fun W => W.cell? ⟨b, 0, none⟩ = some v ∧ W.cell? ⟨b, 1, none⟩ = some (.int .u64 low))
      (first
        | exact ⟨h0, h1⟩
        | (go_split_ands
           exact ⟨(hgrow2.cell_far _ (by simp at hz1' ⊢; omega) (by simp [Value.ownBlock]; omega)).trans (by assumption), (hgrow2.cell_far _ (by simp at hz1' ⊢; omega) (by simp [Value.ownBlock]; omega)).trans (by assumption)⟩)
        | (go_split_ands
           exact ⟨(World.cell?_alloc_lt _ _ _ (by simp; omega)).trans (by assumption), (World.cell?_alloc_lt _ _ _ (by simp; omega)).trans (by assumption)⟩)
        | (go_split_ands
           exact ⟨(World.cell?_alloc_lt _ _ _ (by simp at hz1' ⊢; omega)).trans (by assumption), (World.cell?_alloc_lt _ _ _ (by simp at hz1' ⊢; omega)).trans (by assumption)⟩)
        | (go_split_ands
           exact ⟨(hgrow.cell_far _ (by simp; omega) (by simp [Value.ownBlock]; omega)).trans (by assumption), (hgrow.cell_far _ (by simp; omega) (by simp [Value.ownBlock]; omega)).trans (by assumption)⟩))
      (first
        | ((refine step_append_form _ (by rfl) (.tmp 4) (.tmp 8) _ (by rfl) w.heap.size 5 i0 (.int .u8 0) 1 1 Tryd.underlying22 hi0 hz0 hz1 hz2 rfl (by omega) (.slice (some ⟨w.heap.size, 0, none⟩) 0 0) 0 [] (by rfl) (by first | exact World.ownsRow_lit w #[] 0 (Nat.le_refl _) (by unfold maxLen; omega) rfl | exact (World.ownsRow_lit w #[] 0 (Nat.le_refl _) (by unfold maxLen; omega) rfl).alloc _) v out.length (out.map byteV) (by rfl) (by first | exact From.of_own ((E.out.own.alloc _).drew) | exact From.of_own (((E.out.own.alloc _).alloc _).drew)) (one_bytes out) (.inl (by simp [Value.ownBlock])) (by unfold maxLen; omega) (by omega) (by first | (simp; done) | (simp; omega)) out.length (out.map byteV) (by simp) (by simp) ?_
            intro g1 cap1 w1 hown hgrow hat hlt1
            have hg1 : w.heap.size ≤ g1 := by rcases hat with h | h <;> simp [Value.ownBlock] at h <;> omega
            have hz1' := hgrow.size))
        | ((refine step_append_form _ (by rfl) (.tmp 4) (.tmp 8) _ (by rfl) w.heap.size 5 i0 (.int .u8 0) 1 1 Tryd.underlying22 hi0 hz0 hz1 hz2 rfl (by omega) (.slice (some ⟨w.heap.size + 1, 0, none⟩) 0 0) 0 [] (by rfl) (by exact own_lit_at (w.alloc _) (by simp) (by omega)) v out.length (out.map byteV) (by rfl) (by exact From.of_own (((E.out.own.alloc _).alloc _).drew)) (one_bytes out) (.inl (by simp [Value.ownBlock])) (by unfold maxLen; omega) (by omega) (by first | (simp; done) | (simp; omega)) out.length (out.map byteV) (by simp) (by simp) ?_
            intro g1 cap1 w1 hown hgrow hat hlt1
            have hg1 : w.heap.size ≤ g1 := by rcases hat with h | h <;> simp [Value.ownBlock] at h <;> omega
            have hz1' := hgrow.size))
        | ((refine step_append_form _ (by rfl) (.tmp 9) (.tmp 33) _ (by rfl) w.heap.size 5 i0 (.int .u8 0) 1 1 Tryd.underlying22 hi0 hz0 hz1 hz2 rfl (by omega) (.slice (some ⟨g1, 0, none⟩) out.length cap1) out.length (out.map byteV) (by rfl) (by first | exact hown | exact hown.alloc _) _ 4 ([c1, c2, c3, c4].map byteV) (by rfl) (by first | exact from_block (Blk.new w1 5 #[.int .u8 (c1.toNat : Nat), .int .u8 (c2.toNat : Nat), .int .u8 (c3.toNat : Nat), .int .u8 (c4.toNat : Nat)]) rfl | exact from_block (grown_blk (B := w.heap.size + 1) hgrow (Blk.newAt (n := w.heap.size + 1) (w.alloc _) 5 #[.int .u8 (c1.toNat : Nat), .int .u8 (c2.toNat : Nat), .int .u8 (c3.toNat : Nat), .int .u8 (c4.toNat : Nat)] (by simp)) (by simp [Value.ownBlock])) rfl | exact from_block (grown_blk (B := w.heap.size) hgrow ((Blk.new w 5 #[.int .u8 (c1.toNat : Nat), .int .u8 (c2.toNat : Nat), .int .u8 (c3.toNat : Nat), .int .u8 (c4.toNat : Nat)]).alloc _) (by simp [Value.ownBlock])) rfl) (one_bytes _) (.inl (by simp [Value.ownBlock])) (by unfold maxLen; omega) (by omega) (by simp at hz1' ⊢; omega) (out.length + 4) ((out ++ [c1, c2, c3, c4]).map byteV) rfl (by simp) ?_
            intro g2 cap2 w2 hown2 hgrow2 hat2 hlt2)))
    all_goals
      go_wp2_with fail
      go_meet
      refine ⟨g2, cap2, rfl, ?_, ?_⟩
      · rw [HF.out]
        simpa using hown2
      · first
          | exact (((((Below.refl _ w).alloc (Nat.le_refl _) _).drew).grown hgrow (by simp) (fun k hk => by simp [Value.ownBlock] at hk; omega)).alloc (by simp at hz1' ⊢; omega) _).grown hgrow2 (by simp at hz1' ⊢; omega) (fun k hk => by simp [Value.ownBlock] at hk; omega)
          | exact (((((Below.refl _ w).alloc (Nat.le_refl _) _).alloc (by simp) _).drew).grown hgrow (by simp; omega) (fun k hk => by simp [Value.ownBlock] at hk; omega)).grown hgrow2 (by simp at hz1' ⊢; omega) (fun k hk => by simp [Value.ownBlock] at hk; omega)
  case rest =>
    clear q1 q2 q3 p1 p2 p3 p4 h0 h1
    obtain ⟨g, cap, rfl, hown, hb⟩ := hcut
    have H := hid (And.intro hown hb)
    have hfl : (out ++ four low).length = out.length + 4 := by simp [four]
    have HL := hid hfl
    clear hown hb hfl
    go_wp2_with fail
    go_loopg [3] (out.length + 4) (fun k s wr => EndRel w (out ++ four low) k s wr)
    case atStart =>
      refine ⟨g, cap, out.length + 4, out ++ four low, rfl, HL.out, rfl, ?_, H.out.2, rfl, by omega⟩
      have := H.out.1
      rw [HL.out] at this
      exact this
    case round =>
      clear H HL
      obtain ⟨g, cap, n, m, rfl, hml, rfl, hown, hb, ht, hn⟩ := hrel
      by_cases hm : 0 < m.length
      · obtain ⟨m', x, rfl⟩ := snoc_of m hm
        obtain ⟨n, rfl⟩ : ∃ q, gk = q + 1 := ⟨m'.length, by simp at hml; omega⟩
        have hml' : m'.length = n := by simp at hml; omega
        have hx := hown.cellAt n (by omega)
        rw [← hml'] at hx
        simp [byteV] at hx
        rw [hml'] at hx
        have hxlt := x.toNat_lt
        have hcap : n + 1 ≤ cap := by
          rcases hown.2 with ⟨h1, _⟩ | ⟨g', c', cur, h1, hb, h2, h3, h4, h5, h6⟩
          · cases h1
          · injection h1 with h1 _ h1c
            omega
        have hcap' : (n : Int) ≤ (cap : Int) := by omega
        have hn0 : (0 : Int) ≤ (n : Int) := by omega
        have X := hid (And.intro hown (And.intro hb (And.intro ht hml')))
        clear hown hb ht hm hml hml' hlt hll hlow' hcap
        by_cases h0 : x = 0
        · subst h0
          simp at hx
          go_wp2
          obtain ⟨hown, hb, ht, hml'⟩ := X.out
          go_roundg n
          case measure => omega
          case rel =>
            refine ⟨g, cap, n, m', rfl, hml', rfl, ?_, hb, ?_, by omega⟩
            · rw [List.map_append] at hown
              exact own_pop hown
            · rw [← ht, trim_snoc, if_pos rfl]
        · have hx1 : (((x.toNat : Nat) : Int) == 0) = false := by
            simp
            intro e
            exact h0 (UInt8.toNat_inj.1 (by simpa using e))
          have hx2 : ((x.toNat : Nat) == 0) = false := by
            simp
            intro e
            exact h0 (UInt8.toNat_inj.1 (by simpa using e))
          have X0 := hid h0
          clear h0
          generalize hq : x.toNat = q at *
          clear hq
          go_wp2
          go_ret
          obtain ⟨hown, hb, ht, hml'⟩ := X.out
          have e : Enc.bytes ⟨out, low, r⟩ = m' ++ [x] := by
            unfold Enc.bytes
            rw [← ht, trim_snoc, if_neg X0.out]
          have e2 : (m' ++ [x]).length = n + 1 := by simp [hml']
          refine ⟨g, cap, ?_, ?_, hb⟩
          · rw [e, e2]; rfl
          · rw [e, e2]; exact hown
      · have hm0 : m = [] := List.eq_nil_of_length_eq_zero (by omega)
        subst hm0
        have hn0 : gk = 0 := by simpa using hml.symm
        subst hn0
        have X := hid (And.intro hown (And.intro hb ht))
        clear hown hb ht hm hml hlt hll hlow'
        go_wp2
        go_ret
        obtain ⟨hown, hb, ht⟩ := X.out
        have e : Enc.bytes ⟨out, low, r⟩ = [] := by
          unfold Enc.bytes
          rw [← ht, trim_nil]
        exact ⟨g, cap, by rw [e]; rfl, by rw [e]; exact hown, hb⟩
end Go.Proofs.YtkkgpdejmcpcpaaDoor

/- The document's encoder: its functions. -/
namespace Go.Proofs.YtkkgpdejmcpcpaaDoor
open Go.RowKit

def rencCells (v : Value) (r : Nat) : Array Value := #[v, .int .i64 (r : Nat)]
theorem addL_snoc (m : List UInt8) (x : UInt8) (v : Nat) : addL (m ++ [x]) v = if v = 0 then m ++ [x] else addL m ((v + x.toNat) / 256) ++ [UInt8.ofNat (v + x.toNat)] := by
  unfold addL
  rw [List.reverse_append]
  simp only [List.reverse_cons, List.reverse_nil, List.nil_append, List.singleton_append, addRev]
  split
  · simp
  · simp
theorem addL_nil (v : Nat) : addL [] v = [] := rfl
theorem addL_zero (m : List UInt8) : addL m 0 = m := by
  unfold addL
  cases h : m.reverse with
  | nil => simp only [addRev]; rw [← h, List.reverse_reverse]
  | cons x l => simp only [addRev, if_true]; rw [← h, List.reverse_reverse]
theorem addRev_length (l : List UInt8) (v : Nat) : (addRev l v).length = l.length := by
  induction l generalizing v with
  | nil => rfl
  | cons x l ih => simp only [addRev]; split <;> simp [ih]
theorem addL_length (l : List UInt8) (v : Nat) : (addL l v).length = l.length := by
  unfold addL; rw [List.length_reverse, addRev_length, List.length_reverse]

end Go.Proofs.YtkkgpdejmcpcpaaDoor

