/- Parts: XRefEncMore, XModBegin, XModBase, XModWr. -/
import Derived.Test.YtkkgpdejmcpcpaaGreatDoorM11
import Derived.Test.YtkkgpdejmcpcpaaGreatDoorM03
/- The document's encoder: Flat, Code, NewEncoder, End. -/
namespace Go.Proofs.YtkkgpdejmcpcpaaGreatDoor
open Go.RowKit

theorem renc_narrow_at (b x : Nat) (y : Int) (hy : y = (x : Nat)) (v : Value) (u : Bool) (e : REnc) (w : World) (he : REncAt w b v e) (ho : e.Ok 1000000004) (hx1 : 1 ≤ x) (hx2 : x < e.R) :
    Calls Tryz.prog 98 #[.pointer (some ⟨b, 0, none⟩), .int .i64 y, .bool u] w fun y w' => y = .returned (.tuple #[]) ∧ RMoved w b v (e.narrow x u) w' := by
  subst hy
  obtain ⟨l, r⟩ := e
  exact renc_narrow b x v u l r w he hx1 hx2 ho.r1 ho.len

set_option maxHeartbeats 400000 in
theorem renc_flat (b : Nat) (v : Value) (u : Bool) (e : REnc) (w : World) (he : REncAt w b v e) (ho : e.Ok 1000000004) :
    Calls Tryz.prog 86 #[.pointer (some ⟨b, 0, none⟩), .bool u] w fun y w' => y = .returned (.tuple #[]) ∧ RMoved w b v (e.narrow (e.R / 2) u) w' := by
  have h2 := he.blk.cell 1
  simp [rencCells] at h2
  have D := hid (And.intro he ho)
  have hr0 := ho.r0
  have hr1 := ho.r1
  clear he ho
  generalize hr : e.R = r at *
  have R := hid hr
  clear hr
  have B := hid (And.intro hr0 hr1)
  go_enter Tryz.func86, Tryz.ntmps86
  go_wp2_with fail
  refine (renc_narrow_at b (r / 2) _ (by omega) v u e _ D.out.1 D.out.2 (by have := B.out; omega) (by rw [R.out]; have := B.out; omega)).mono ?_
  rintro y w' ⟨rfl, hp⟩
  have P := hid hp
  clear hp
  go_wp2
  go_end0
  exact ⟨rfl, P.out⟩

set_option maxHeartbeats 400000 in
theorem renc_code_no (b : Nat) (p : Int) (u : Bool) (w : World) (h : p < 1 ∨ 2047 < p) :
    Calls Tryz.prog 88 #[.pointer (some ⟨b, 0, none⟩), .int .i64 p, .bool u] w fun e w' => e = .returned (.agg #[.int .i64 3, .slice none 0 0]) ∧ Below w.heap.size w w' := by
  have hx : (p < 1) ∨ (1 ≤ p ∧ 2047 < p) := by omega
  clear h
  rcases hx with h | ⟨h, h'⟩
  all_goals
    go_enter Tryz.func88, Tryz.ntmps88
    go_wp2_with fail
    refine (fail_any 3 _).mono ?_
    rintro e w' ⟨rfl, hb⟩
    have hz := hb.size
    have hc0 := hb.cell (p := ⟨w.heap.size, 0, none⟩) (by simp)
    have hc1 := hb.cell (p := ⟨w.heap.size, 1, none⟩) (by simp)
    have hf0 := hb.frozen (p := ⟨w.heap.size, 0, none⟩) (by simp)
    have hf1 := hb.frozen (p := ⟨w.heap.size, 1, none⟩) (by simp)
    simp at hc0 hc1 hf0 hf1 hz
    have B := hid hb
    clear hb
    go_wp2
    refine bodyPost_ret (v := .agg #[.int .i64 3, .slice none 0 0]) (by simp [results, Tryz.results88, go_sem, hc0, hc1]) rfl ⟨rfl, ?_⟩
    exact (((Below.refl _ w).alloc (Nat.le_refl _) _).trans (B.out.mono (by simp))).setCell (Nat.le_refl _) _ |>.setCell (Nat.le_refl _) _

theorem renc_far {w w' : World} {b : Nat} {v : Value} {e : REnc} {S : Nat → Prop} (h : REncAt w b v e) (ho : Only S w w') (h1 : ¬ S b) (h2 : ∀ k, v.ownBlock = some k → ¬ S k) : REncAt w' b v e := by
  refine ⟨h.blk.keep ho h1, ?_, h.some_, h.len⟩
  refine ⟨h.own.1, ?_⟩
  rcases h.own.2 with hn | ⟨g, cap, cur, hv, hb, hg, hr⟩
  · exact .inl hn
  · exact .inr ⟨g, cap, cur, hv, hb, Blk.keep hg ho (h2 g (by rw [hv]; rfl)), hr⟩
theorem own_lt {w : World} {base n : Nat} {t : TypeId} {v : Value} {xs : List Value} (h : w.ownsRow base t 1 v n xs) : ∀ k, v.ownBlock = some k → k < w.heap.size := fun k hk => (h.lt k hk).2

set_option maxHeartbeats 400000 in
theorem renc_code (b p : Nat) (v : Value) (u : Bool) (e : REnc) (w : World) (he : REncAt w b v e) (ho : e.Ok 1000000004) (h1 : 1 ≤ p) (h2 : p ≤ 2047) :
    Calls Tryz.prog 88 #[.pointer (some ⟨b, 0, none⟩), .int .i64 p, .bool u] w fun y w' => y = .returned (.agg #[.int .i64 0, .slice none 0 0]) ∧ RMoved w b v (e.narrow (e.R / 2048 * p) u) w' := by
  have h3 := he.blk.cell 1
  simp [rencCells] at h3
  have hbl := he.blk.lt
  have hvl := own_lt he.own
  have D := hid (And.intro he ho)
  have hr0 := ho.r0
  have hr1 := ho.r1
  have D1 : REncAt (w.alloc (.cells #[.int .i64 0, .slice none 0 0] 46)) b v e := renc_far (S := fun _ => False) he ((Only.refl _ w).alloc _) (fun h => h) (fun _ _ h => h)
  have D2 := hid D1
  clear D1 he ho
  generalize hr : e.R = r at *
  have R := hid hr
  clear hr
  have B := hid (And.intro hr0 hr1)
  have V := hid hvl
  clear hvl
  have hm : 1 ≤ r / 2048 * p ∧ r / 2048 * p < r := by
    have := B.out
    have hq : 8192 ≤ r / 2048 := by omega
    constructor
    · exact Nat.mul_pos (by omega) h1
    · have : r / 2048 * p ≤ r / 2048 * 2047 := Nat.mul_le_mul_left _ h2
      omega
  have M := hid hm
  clear hm
  have e1 : ((r : Int) / 2048 * (p : Int)) = ((r / 2048 * p : Nat) : Int) := by simp
  have hq0 : 0 ≤ ((r : Int) / 2048 * (p : Int)) := by rw [e1]; omega
  have hq1 : ((r : Int) / 2048 * (p : Int)) ≤ 4294967295 := by have := M.out; rw [e1]; omega
  clear e1
  go_enter Tryz.func88, Tryz.ntmps88
  go_wp2_with fail
  refine (renc_narrow_at b (r / 2048 * p) _ (by simp) v u e _ D2.out D.out.2 M.out.1 (by rw [R.out]; exact M.out.2)).mono ?_
  rintro y w' ⟨rfl, v', hp, ho, hf⟩
  have hns : ¬ Fp b v w.heap.size := by
    rintro (h | h)
    · omega
    · have := V.out _ h
      omega
  have hz := ho.size
  have hc0 := ho.cell (p := ⟨w.heap.size, 0, none⟩) (by simp) hns
  have hc1 := ho.cell (p := ⟨w.heap.size, 1, none⟩) (by simp) hns
  have hf0 := ho.frozen (p := ⟨w.heap.size, 0, none⟩) (by simp) hns
  have hf1 := ho.frozen (p := ⟨w.heap.size, 1, none⟩) (by simp) hns
  simp at hc0 hc1 hf0 hf1 hz
  have P := hid (And.intro hp (And.intro ho hf))
  have NS := hid hns
  clear hp ho hns hf
  go_wp2
  refine bodyPost_ret (v := .agg #[.int .i64 0, .slice none 0 0]) (by simp [results, Tryz.results88, go_sem, hc0, hc1]) rfl ⟨rfl, v', ?_, ?_, ?_⟩
  · refine renc_far (S := (· = w.heap.size)) P.out.1 (((Only.refl _ w').put (by rfl) 0 _).put (by rfl) 1 _) (by omega) (fun k hk e => ?_)
    subst e
    rcases P.out.2.2 _ hk with h | h
    · exact absurd (V.out _ h) (by omega)
    · simp at h; omega
  · exact (((Only.refl _ w).alloc _).trans P.out.2.1).setCell (fun h => absurd h (by simp)) _ |>.setCell (fun h => absurd h (by simp)) _
  · intro k hk
    rcases P.out.2.2 _ hk with h | h
    · exact .inl h
    · simp at h; exact .inr (by omega)

def RNew (w : World) (e : Ending) (w' : World) : Prop :=
  ∃ b v, e = .returned (.pointer (some ⟨b, 0, none⟩)) ∧ REncAt w' b v REnc.new ∧ w.heap.size ≤ b ∧ (∀ k, v.ownBlock = some k → w.heap.size ≤ k) ∧ Below w.heap.size w w'
set_option maxHeartbeats 400000 in
theorem rnew_encoder (w : World) : Calls Tryz.prog 30 #[] w (RNew w) := by
  have hmk : ∀ W : World, (Instr.makeSlice 53 (.int .i64 4) (.int .i64 4)).run Tryz.prog W = .ok (.slice (some ⟨W.heap.size, 0, none⟩) 4 4) (W.alloc (.cells #[.int .u8 0, .int .u8 0, .int .u8 0, .int .u8 0] 5)) := fun _ => by kernel_rfl
  have hB : Below w.heap.size w ((w.alloc (.cells #[.int .u8 0, .int .u8 0, .int .u8 0, .int .u8 0] 5)).alloc (.cells #[.slice (some ⟨w.heap.size, 0, none⟩) 4 4, .int .i64 4294967295] 109)) := ((Below.refl _ _).alloc (Nat.le_refl _) _).alloc (by simp) _
  have hE : REncAt ((w.alloc (.cells #[.int .u8 0, .int .u8 0, .int .u8 0, .int .u8 0] 5)).alloc (.cells #[.slice (some ⟨w.heap.size, 0, none⟩) 4 4, .int .i64 4294967295] 109)) (w.heap.size + 1) (.slice (some ⟨w.heap.size, 0, none⟩) 4 4) REnc.new := by
    refine ⟨Blk.newAt _ _ _ (by simp), ?_, by simp [Value.ownBlock], by simp [REnc.new]⟩
    have := (World.ownsRow_lit (base := 0) (e := 5) (size := 1) w #[.int .u8 0, .int .u8 0, .int .u8 0, .int .u8 0] 4 (Nat.zero_le _) (by unfold maxLen; omega) rfl).alloc (.cells #[.slice (some ⟨w.heap.size, 0, none⟩) 4 4, .int .i64 4294967295] 109)
    exact this
  have H := hid (And.intro hE hB)
  clear hE hB
  go_enter Tryz.func30, Tryz.ntmps30
  go_wp2
  go_ret
  refine ⟨w.heap.size + 1, _, ?_, H.out.1, by omega, ?_, H.out.2⟩
  · simp
  · intro k hk
    simp [Value.ownBlock] at hk
    omega

def REndRel (L : List UInt8) (k : Nat) (v : Value) : Prop :=
  ∃ (m t : List UInt8) (n : Nat), k = n ∧ v = .int .i64 (n : Nat) ∧ m.length = n ∧ L = m ++ t ∧ trim L = trim m

set_option maxRecDepth 100000 in
set_option maxHeartbeats 400000 in
theorem renc_end (b : Nat) (v : Value) (e : REnc) (w : World) (he : REncAt w b v e) :
    Calls Tryz.prog 17 #[.pointer (some ⟨b, 0, none⟩)] w fun y w' => ∃ g cap, y = .returned (.slice (some ⟨g, 0, none⟩) e.bytes.length cap) ∧ w'.ownsRow w.heap.size 5 1 (.slice (some ⟨g, 0, none⟩) e.bytes.length cap) e.bytes.length (e.bytes.map byteV) ∧ Below w.heap.size w w' := by
  obtain ⟨g, cap, rfl, _, hgl⟩ := renc_form he
  obtain ⟨L, r⟩ := e
  have hown := he.own
  simp only at hown
  have hlen : L.length ≤ 1000000000000 := he.len
  have h0 := he.blk.cell 0
  simp [rencCells] at h0
  have hcap : L.length ≤ cap := by
    rcases hown.2 with ⟨h1, _⟩ | ⟨g', c', cur, h1, hb, h2, h3, h4, h5, h6⟩
    · cases h1
    · injection h1 with h1 _ h1c
      omega
  have O := hid hown
  clear he hown
  go_enter Tryz.func17, Tryz.ntmps17
  go_wp2
  go_loopg [3] L.length (fun k v wr => REndRel L k v ∧ wr = w)
  case atStart => exact ⟨⟨L, [], L.length, rfl, rfl, rfl, by simp, rfl⟩, rfl⟩
  case round =>
    obtain ⟨⟨m, t, n, rfl, rfl, hmn, hL, ht⟩, rfl⟩ := hrel
    have hll : m.length + t.length = L.length := by rw [hL]; simp
    by_cases hm : 0 < m.length
    · obtain ⟨m', x, rfl⟩ := snoc_of m hm
      obtain ⟨n, rfl⟩ : ∃ q, gk = q + 1 := ⟨m'.length, by simp at hmn; omega⟩
      have hml : m'.length = n := by simp at hmn; omega
      have hx := O.out.cellAt n (by simp at hll; omega)
      have hx' : (L.map byteV)[n]? = some (.int .u8 (x.toNat : Nat)) := by rw [hL, ← hml]; simp [byteV]
      rw [hx'] at hx
      have hxlt := x.toNat_lt
      have hi1 : (0 : Int) ≤ (n : Int) := by omega
      have hi2 : (n : Int) < (L.length : Int) := by simp at hll; omega
      have X := hid (And.intro hL (And.intro ht hll))
      have M := hid hml
      clear hL ht hll hm hx' hml hmn
      by_cases hz : x = 0
      · subst hz
        simp at hx
        go_wp2
        obtain ⟨hL, ht, hll⟩ := X.out
        have hmn := M.out
        go_roundg n
        case measure => omega
        case rel =>
          refine ⟨⟨m', 0 :: t, n, rfl, rfl, hmn, by rw [hL]; simp, ?_⟩, rfl⟩
          rw [ht, trim_snoc, if_pos rfl]
      · have hx2 : ((x.toNat : Nat) == 0) = false := by
          simp
          intro e
          exact hz (UInt8.toNat_inj.1 (by simpa using e))
        have X0 := hid hz
        clear hz
        generalize hq : x.toNat = q at *
        clear hq
        have e : REnc.bytes ⟨L, r⟩ = m' ++ [x] := by
          unfold REnc.bytes
          show trim L = _
          rw [X.out.2.1, trim_snoc, if_neg X0.out]
        have hf : From wr 1 (.slice (some ⟨g, 0, none⟩) (n + 1) cap) (m' ++ [x]).length ((m' ++ [x]).map byteV) := by
          obtain ⟨A, c, h1, h2, h3⟩ := From.of_own O.out
          injection h1 with h1 _ h1c
          subst h1 h1c
          have hn := M.out
          refine ⟨_, _, by rw [List.length_append, hn]; rfl, by simp, fun _ => ⟨_, rfl, fun j u hu => ?_⟩⟩
          obtain ⟨ad, h4, h5⟩ := h3 (by omega)
          injection h4 with h4
          subst h4
          refine h5 j u ?_
          rw [X.out.1, List.map_append]
          rw [List.getElem?_append_left (by have := (List.getElem?_eq_some_iff.1 hu).1; exact this)]
          exact hu
        have F := hid hf
        have EB := hid e
        clear hf e
        go_wp2_with fail
        refine (copy_bytes _ (m' ++ [x]) _ F.out (by rw [List.length_append, M.out]; simp; omega)).mono ?_
        rintro y w' ⟨g', c', rfl, hown, hb⟩
        have P := hid (And.intro hown hb)
        clear hown hb
        go_wp2
        go_ret
        exact ⟨g', c', by rw [EB.out, List.length_append]; rfl, by rw [EB.out]; exact P.out.1, P.out.2⟩
    · have hm0 : m = [] := List.eq_nil_of_length_eq_zero (by omega)
      subst hm0
      obtain rfl : gk = 0 := by simpa using hmn.symm
      have e : REnc.bytes ⟨L, r⟩ = [] := by
        unfold REnc.bytes
        show trim L = _
        rw [ht, trim_nil]
      have X := hid (And.intro hL (And.intro ht e))
      clear hL ht hm e hmn hll
      have hf : From wr 1 (.slice (some ⟨g, 0, none⟩) 0 cap) ([] : List UInt8).length (([] : List UInt8).map byteV) := ⟨_, _, rfl, rfl, fun h => absurd rfl h⟩
      have F := hid hf
      clear hf
      go_wp2_with fail
      refine (copy_bytes _ [] _ F.out (by simp)).mono ?_
      rintro y w' ⟨g', c', rfl, hown, hb⟩
      have P := hid (And.intro hown hb)
      clear hown hb
      go_wp2
      go_ret
      exact ⟨g', c', by rw [X.out.2.2]; rfl, by rw [X.out.2.2]; exact P.out.1, P.out.2⟩
end Go.Proofs.YtkkgpdejmcpcpaaGreatDoor

/- The model's chances at first. -/
namespace Go.Proofs.YtkkgpdejmcpcpaaGreatDoor
open Go.RowKit

/-- Chances as cells. -/
def chV (P : List Nat) : Array Value := (P.map fun p => Value.int .i64 (p : Nat)).toArray
theorem chV_size (P : List Nat) : (chV P).size = P.length := by simp [chV]
theorem chV_get (P : List Nat) (i : Nat) (h : i < P.length) : (chV P)[i]? = some (.int .i64 (P.getD i 0 : Nat)) := by
  simp [chV, h, List.getD]
theorem chV_set (P : List Nat) (i v : Nat) : (chV P).setIfInBounds i (.int .i64 (v : Nat)) = chV (P.set i v) := by
  simp [chV, List.map_set]
theorem chV_one (P : List Nat) : (chV P).all (·.oneCell') = true := by
  simp [chV, Value.oneCell']
def first64 : List Nat := List.replicate 64 1024

theorem setRow_other' (w : World) (g k : Nat) (cs : Array Value) (h : k ≠ g) : (w.setRow g cs).heap[k]? = w.heap[k]? := setRow_other w g k cs h
theorem Only.setRow {S : Nat → Prop} {w w' : World} (h : Only S w w') {g : Nat} (hg : g < w.heap.size → S g) (cs : Array Value) : Only S w (w'.setRow g cs) :=
  ⟨h.os, h.tape, h.output, by simpa using h.size, fun k hk hn => (setRow_other w' g k cs (by
    rintro rfl
    exact hn (hg hk))).trans (h.block k hk hn)⟩
theorem Blk.row {w : World} {g : Nat} {t : TypeId} {cs : Array Value} (h : Blk w g t cs) (cs' : Array Value) : Blk (w.setRow g cs') g t cs' := setRow_heap w g cs cs' t _ h
theorem below_of_only {S : Nat → Prop} {w w' : World} (h : Only S w w') (hs : ∀ k, k < w.heap.size → ¬ S k) : Below w.heap.size w w' := ⟨h.os, h.tape, h.output, h.size, fun k hk => h.block k hk (hs k hk)⟩

def beginMid (j : Nat) : List Nat := List.replicate j 1024 ++ List.replicate (64 - j) 0
theorem beginMid_len (j : Nat) (h : j ≤ 64) : (beginMid j).length = 64 := by simp [beginMid]; omega
theorem beginMid_get (j : Nat) (h : j < 64) : (beginMid j).getD j 0 = 0 := by
  unfold beginMid
  rw [List.getD_eq_getElem?_getD, List.getElem?_append_right (by simp)]
  simp [show 0 < 64 - j by omega]
theorem beginMid_set (j : Nat) (h : j < 64) : (beginMid j).set j 1024 = beginMid (j + 1) := by
  unfold beginMid
  rw [List.set_append_right _ _ (by simp)]
  rw [show 64 - j = (64 - (j + 1)) + 1 by omega, List.replicate_succ, List.replicate_succ']
  simp

set_option maxRecDepth 100000 in
set_option maxHeartbeats 800000 in
theorem begin_any (w : World) : Calls Tryz.prog 26 #[] w fun e w' => e = .returned (.agg (chV first64)) ∧ Below w.heap.size w w' := by
  have hz : chV (beginMid 0) = Array.replicate 64 (.int .i64 0) := by rfl
  have hs : (Tryz.prog.info? 76).map (·.size) = some 64 := by kernel_rfl
  go_enter Tryz.func26, Tryz.ntmps26
  go_wp2_with fail
  refine wp_named (fun W => Blk W w.heap.size 76 (chV (beginMid 0)) ∧ Blk W (w.heap.size + 1) 76 (chV (beginMid 0)) ∧ Only (fun _ => False) w W) ?_ ?_
  · exact ⟨(Blk.new w _ (chV (beginMid 0))).alloc _, Blk.newAt _ _ (chV (beginMid 0)) (by simp), ((Only.refl _ w).alloc _).alloc _⟩
  rintro W ⟨hA, hB, hO⟩
  generalize hH : w.heap.size = H at *
  have Z := hid (And.intro hA (And.intro hB hO))
  have SZ := hid (And.intro hs hH)
  clear hA hB hO hz hs hH
  go_loopg [3] 64 (fun k i wr => ∃ j : Nat, j + k = 64 ∧ i = .int .i64 j ∧ Blk wr (H + 1) 76 (chV (beginMid j)) ∧ Only (· = H + 1) W wr)
  case atStart => exact ⟨0, rfl, rfl, Z.out.2.1, Only.refl _ _⟩
  case round =>
    obtain ⟨j, hj, rfl, hb, ho⟩ := hrel
    by_cases hlt : j < 64
    · have h0 := hb.cell j
      have f0 := hb.frozen j
      rw [chV_get _ _ (by rw [beginMid_len _ (by omega)]; omega), beginMid_get j hlt] at h0
      have X := hid (And.intro hb ho)
      clear hb ho
      have k0 : (0 : Int) ≤ (j : Int) := by omega
      have k1 : (j : Int) < 64 := by omega
      go_wp2
      go_roundg (gk - 1)
      case measure => omega
      case rel =>
        refine ⟨j + 1, by omega, by go_num, ?_, X.out.2.put (by rfl) j _⟩
        have := X.out.1.put j (.int .i64 (1024 : Nat))
        rw [chV_set, beginMid_set j hlt] at this
        exact this
    · obtain rfl : j = 64 := by omega
      have hA : Blk wr H 76 (chV (beginMid 0)) := Z.out.1.keep ho (by omega)
      have X := hid (And.intro hb (And.intro ho hA))
      have hsz : (chV (beginMid 64)).size = 64 := by rw [chV_size, beginMid_len _ (by omega)]
      have HS := hid hsz
      clear hb ho hA hsz
      go_wp2_with
        (first
          | (refine wpList_load_row rfl 76 _ rfl (H + 1) rfl 76 (chV (beginMid 64)) (0, 0) _ X.out.1 Tryz.underlying76 rfl (by rw [HS.out]; exact SZ.out.1) ?_)
          | (refine wpList_store_row rfl 76 _ _ rfl H (chV (beginMid 64)) rfl rfl 76 (chV (beginMid 0)) X.out.2.2 (by rw [HS.out]; exact SZ.out.1) (by rw [chV_size, chV_size, beginMid_len _ (by omega), beginMid_len _ (by omega)]) (chV_one _) ?_))
      refine bodyPost_ret (v := .agg (chV (beginMid 64))) (by exact results_cell_row (by rfl) _ _ H 76 (chV (beginMid 64)) (0, 0) _ (by rfl) (X.out.2.2.row _) Tryz.underlying76 (by rfl) (by rw [HS.out]; exact SZ.out.1)) (by rfl) ⟨rfl, ?_⟩
      have hH := SZ.out.2
      rw [← hH]
      refine below_of_only (S := fun k => k = H ∨ k = H + 1) ?_ (fun k hk => by omega)
      refine Only.setRow ?_ (fun _ => .inl hH) _
      exact (Z.out.2.2.mono (fun _ _ h => h.elim)).trans (X.out.2.1.mono (fun k _ h => .inr h))
end Go.Proofs.YtkkgpdejmcpcpaaGreatDoor

/- The model: learn, Chance, context, bound. -/
namespace Go.Proofs.YtkkgpdejmcpcpaaGreatDoor
open Go.RowKit

theorem context_yes (c : Int) (w : World) (h1 : 0 ≤ c) (h2 : c < 64) : Calls Tryz.prog 123 #[.int .i64 c] w fun e w' => e = .returned (.bool true) ∧ w = w' := by
  go_enter Tryz.func123, Tryz.ntmps123
  go_wp2
  go_ret
  exact ⟨rfl, rfl⟩
theorem context_no (c : Int) (w : World) (h : c < 0 ∨ 64 ≤ c) : Calls Tryz.prog 123 #[.int .i64 c] w fun e w' => e = .returned (.bool false) ∧ w = w' := by
  rcases h with h | h
  · go_enter Tryz.func123, Tryz.ntmps123
    go_wp2
    go_ret
    exact ⟨rfl, rfl⟩
  · have h' : 0 ≤ c := by omega
    have h2 : decide (c < 64) = false := by simp; omega
    go_enter Tryz.func123, Tryz.ntmps123
    go_wp2
    go_ret
    exact ⟨rfl, rfl⟩
theorem bound_any (v lo hi : Int) (w : World) : Calls Tryz.prog 57 #[.int .i64 v, .int .i64 lo, .int .i64 hi] w fun e w' => e = .returned (.int .i64 (cut v lo hi)) ∧ w = w' := by
  go_enter Tryz.func57, Tryz.ntmps57
  go_wp2
  go_ret
  exact ⟨rfl, rfl⟩

set_option maxRecDepth 100000 in
set_option maxHeartbeats 400000 in
theorem learn_any (b c p : Nat) (u : Bool) (w : World) (hc : c < 64) (hp : w.cell? ⟨b, c, none⟩ = some (.int .i64 p)) (hf : w.frozen? ⟨b, c, none⟩ = false) (hp1 : p ≤ 2017) :
    Calls Tryz.prog 125 #[.pointer (some ⟨b, 0, none⟩), .int .i64 c, .bool u] w fun e w' => e = .returned (.tuple #[]) ∧ w' = (w.setCell ⟨b, c, none⟩ (.int .i64 (learnP p u : Nat))).drew := by
  have c0 : (0 : Int) ≤ (c : Int) := by omega
  have c1 : (c : Int) < 64 := by omega
  cases u with
  | true =>
    have e : (p : Int) - (p : Int) / 32 = ((learnP p true : Nat) : Int) := by simp only [learnP]; simp; omega
    have E := hid e
    clear e
    go_enter Tryz.func125, Tryz.ntmps125
    go_wp2
    go_region
    go_wp2
    go_end0
    rw [← E.out]
    exact ⟨rfl, rfl⟩
  | false =>
    have e : (p : Int) + (2048 - (p : Int)) / 32 = ((learnP p false : Nat) : Int) := by simp only [learnP]; simp; omega
    have E := hid e
    clear e
    go_enter Tryz.func125, Tryz.ntmps125
    go_wp2
    go_region
    go_wp2
    go_end0
    rw [← E.out]
    exact ⟨rfl, rfl⟩

end Go.Proofs.YtkkgpdejmcpcpaaGreatDoor

/- The model's writer. -/
namespace Go.Proofs.YtkkgpdejmcpcpaaGreatDoor
open Go.RowKit

def modCells (P : List Nat) (q : Value) : Array Value := (P.map (fun p => Value.int .i64 (p : Nat)) ++ [q]).toArray
theorem mod_get (P : List Nat) (q : Value) (i : Nat) (h : i < P.length) : (modCells P q)[i]? = some (.int .i64 (P.getD i 0 : Nat)) := by
  simp [modCells, h, List.getElem?_append_left, List.getD]
theorem mod_last (P : List Nat) (q : Value) (h : P.length = 64) : (modCells P q)[64]? = some q := by
  simp [modCells, h]
theorem mod_set (P : List Nat) (q : Value) (i v : Nat) (h : i < P.length) : (modCells P q).setIfInBounds i (.int .i64 (v : Nat)) = modCells (P.set i v) q := by
  simp [modCells, List.map_set, h]

structure WrAt (w : World) (b eb : Nat) (v : Value) (s : Wr) : Prop where
  blk : Blk w b 81 (modCells s.P (.pointer (some ⟨eb, 0, none⟩)))
  enc : EncAt w eb v s.e
def Fw (b eb : Nat) (v : Value) (k : Nat) : Prop := k = b ∨ Fp eb v k
theorem WrAt.ne {w : World} {b eb : Nat} {v : Value} {s : Wr} (h : WrAt w b eb v s) : b ≠ eb := h.blk.apart h.enc.blk (by decide)
theorem enc_far {w w' : World} {b : Nat} {v : Value} {e : Enc} {S : Nat → Prop} (h : EncAt w b v e) (ho : Only S w w') (h1 : ¬ S b) (h2 : ∀ k, v.ownBlock = some k → ¬ S k) : EncAt w' b v e := by
  refine ⟨h.blk.keep ho h1, ⟨h.own.1, ?_⟩, h.len⟩
  rcases h.own.2 with hn | ⟨g, cap, cur, hv, hb, hg, hr⟩
  · exact .inl hn
  · exact .inr ⟨g, cap, cur, hv, hb, Blk.keep hg ho (h2 g (by rw [hv]; rfl)), hr⟩
theorem enc_blk_ne {w : World} {b eb : Nat} {v : Value} {e : Enc} {t : TypeId} {cs : Array Value} (h : EncAt w eb v e) (hb : Blk w b t cs) (ht : 5 ≠ t) : ∀ k, v.ownBlock = some k → b ≠ k := by
  intro k hk
  rcases h.own.2 with ⟨rfl, _⟩ | ⟨g, cap, cur, rfl, _, hg, _⟩
  · simp [Value.ownBlock] at hk
  · simp [Value.ownBlock] at hk
    subst hk
    exact fun e => ht (by subst e; exact (Blk.uniq (t := 5) hg hb).1)
structure Wr.Ok (s : Wr) (lim : Nat) : Prop where
  P : POk s.P
  e : s.e.Ok lim
def WrMoved (w : World) (b eb : Nat) (v : Value) (s : Wr) (w' : World) : Prop := ∃ v', WrAt w' b eb v' s ∧ Only (Fw b eb v) w w' ∧ Fresh w v v'

set_option maxRecDepth 100000 in
set_option maxHeartbeats 400000 in
theorem wr_flat (b eb : Nat) (v : Value) (u : Bool) (s : Wr) (w : World) (hs : WrAt w b eb v s) (ho : s.Ok 1000000000) :
    Calls Tryz.prog 122 #[.pointer (some ⟨b, 0, none⟩), .bool u] w fun e w' => e = .returned (.bool u) ∧ WrMoved w b eb v (s.flat u).2 w' := by
  have h64 := hs.blk.cell 64
  rw [mod_last _ _ ho.P.len] at h64
  have S := hid (And.intro hs ho)
  clear hs ho
  go_enter Tryz.func122, Tryz.ntmps122
  go_wp2_with fail
  refine (enc_flat eb v u s.e _ S.out.1.enc S.out.2.e).mono ?_
  rintro y w' ⟨rfl, hp⟩
  have P := hid hp
  clear hp
  go_wp2
  go_ret
  obtain ⟨v', h1, h2, h3⟩ := P.out
  obtain ⟨hs, _⟩ := S.out
  refine ⟨rfl, v', ⟨?_, h1⟩, h2.mono (fun _ _ h => .inr h), h3⟩
  refine hs.blk.keep h2 ?_
  rintro (h | h)
  · exact hs.ne h
  · exact enc_blk_ne hs.enc hs.blk (by decide) _ h rfl

set_option maxRecDepth 100000 in
set_option maxHeartbeats 400000 in
theorem wr_bit_out (b eb : Nat) (v : Value) (c : Int) (u : Bool) (s : Wr) (w : World) (hs : WrAt w b eb v s) (ho : s.Ok 1000000000) (hc : c < 0 ∨ 64 ≤ c) :
    Calls Tryz.prog 120 #[.pointer (some ⟨b, 0, none⟩), .int .i64 c, .bool u] w fun e w' => e = .returned (.bool u) ∧ WrMoved w b eb v (s.flat u).2 w' := by
  have S := hid (And.intro hs ho)
  clear hs ho
  go_enter Tryz.func120, Tryz.ntmps120
  go_wp2_with
    (first
      | (go_at_call 123
         refine (context_no c _ hc).mono ?_
         rintro e w' ⟨rfl, rfl⟩)
      | (go_at_call 122
         refine (wr_flat b eb v u s _ S.out.1 S.out.2).mono ?_
         rintro y w' ⟨rfl, hp⟩
         have P := hid hp
         clear hp))
  go_ret
  exact ⟨rfl, P.out⟩

set_option maxRecDepth 100000 in
set_option maxHeartbeats 400000 in
theorem wr_bit (b eb c : Nat) (v : Value) (u : Bool) (s : Wr) (w : World) (hs : WrAt w b eb v s) (ho : s.Ok 1000000000) (hc : c < 64) :
    Calls Tryz.prog 120 #[.pointer (some ⟨b, 0, none⟩), .int .i64 c, .bool u] w fun e w' => e = .returned (.bool u) ∧ WrMoved w b eb v (s.bit c u).2 w' := by
  have h64 := hs.blk.cell 64
  rw [mod_last _ _ ho.P.len] at h64
  have hcc := hs.blk.cell c
  have hcl : c < s.P.length := by rw [ho.P.len]; exact hc
  rw [mod_get _ _ _ hcl] at hcc
  have c0 : (0 : Int) ≤ (c : Int) := by omega
  have c1 : (c : Int) < 64 := by omega
  have hp1 := ho.P.lo c hc
  have hp2 := ho.P.hi c hc
  have S := hid (And.intro hs ho)
  clear hs ho
  generalize hpp : s.P.getD c 0 = p at *
  have PP := hid hpp
  clear hpp
  go_enter Tryz.func120, Tryz.ntmps120
  go_wp2_with (go_at_call 123; refine (context_yes c _ (by omega) (by omega)).mono ?_; rintro e w' ⟨rfl, rfl⟩)
  go_cut [] (fun W => ∃ v', EncAt W eb v' (s.e.narrow (s.e.r / 2048 * p) u) ∧ Only (Fp eb v) w W ∧ Fresh w v v')
  case first =>
    go_region_with (go_at_call 124; refine (enc_code eb p v u s.e _ (by exact enc_drew S.out.1.enc) S.out.2.e (by omega) (by omega)).mono ?_; rintro y w' ⟨rfl, hp⟩)
    all_goals
      go_wp2_with fail
      go_meet
      obtain ⟨v', h1, h2, h3⟩ := hp
      exact ⟨v', h1, (Only.refl _ w).drew.trans h2, h3⟩
  case rest =>
    obtain ⟨v', h1, h2, h3⟩ := hcut
    have hnb : ¬ Fp eb v b := by
      rintro (h | h)
      · exact S.out.1.ne h
      · exact enc_blk_ne S.out.1.enc S.out.1.blk (by decide) _ h rfl
    have hb := S.out.1.blk.keep h2 hnb
    have hcc' := hb.cell c
    rw [mod_get _ _ _ hcl, PP.out] at hcc'
    have fcc' := hb.frozen c
    have X := hid (And.intro h1 (And.intro h2 (And.intro h3 hb)))
    clear h1 h2 h3 hb hnb hcc h64
    go_wp2_with (go_at_call 125; refine (learn_any b c p u _ hc (by assumption) (by assumption) (by omega)).mono ?_; rintro y w' ⟨rfl, rfl⟩)
    go_ret
    obtain ⟨h1, h2, h3, hb⟩ := X.out
    have hne : b ≠ eb := S.out.1.ne
    refine ⟨rfl, v', ⟨?_, ?_⟩, ?_, ?_⟩
    · have := (hb.put c (.int .i64 (learnP p u : Nat))).drew
      rw [mod_set _ _ _ _ hcl] at this
      show Blk _ _ _ (modCells (s.P.set c (learnP (s.P.getD c 0) u)) _)
      rw [PP.out]
      exact this
    · have := enc_far (S := (· = b)) h1 (((Only.refl _ wc).put (by rfl) c (.int .i64 (learnP p u : Nat))).drew) (fun e => hne e.symm) (fun k hk e => enc_blk_ne h1 hb (by decide) _ hk e.symm)
      show EncAt _ _ _ (s.e.narrow (s.e.r / 2048 * s.P.getD c 0) u)
      rw [PP.out]
      exact this
    · exact ((h2.mono (fun _ _ h => .inr h)).put (.inl rfl) c _).drew
    · exact h3
end Go.Proofs.YtkkgpdejmcpcpaaGreatDoor

