/- Parts: XCod. -/
import Derived.Test.YtkkgpdejmcpcpaaGreatDoorM13
/- The document's coder: fresh, Writer, Reader, Flat, Bit, Chance. -/
namespace Go.Proofs.YtkkgpdejmcpcpaaGreatDoor
open Go.RowKit

def codCells (r : Bool) (e d : Value) (P : List Nat) : Array Value := ([.bool r, e, d] ++ P.map (fun p => Value.int .i64 (p : Nat))).toArray
theorem cod_get (r : Bool) (e d : Value) (P : List Nat) (i : Nat) (h : i < P.length) : (codCells r e d P)[3 + i]? = some (.int .i64 (P.getD i 0 : Nat)) := by
  have : 3 + i = i + 3 := by omega
  rw [this]
  simp [codCells, h, List.getD]
theorem cod_set (r : Bool) (e d : Value) (P : List Nat) (i v : Nat) : (codCells r e d P).setIfInBounds (3 + i) (.int .i64 (v : Nat)) = codCells r e d (P.set i v) := by
  have : 3 + i = i + 3 := by omega
  rw [this]
  simp [codCells, List.map_set]
theorem cod_0 (r : Bool) (e d : Value) (P : List Nat) : (codCells r e d P)[0]? = some (.bool r) := by simp [codCells]
theorem cod_1 (r : Bool) (e d : Value) (P : List Nat) : (codCells r e d P)[1]? = some e := by simp [codCells]
theorem cod_2 (r : Bool) (e d : Value) (P : List Nat) : (codCells r e d P)[2]? = some d := by simp [codCells]

theorem below_mono_only {S : Nat → Prop} {B : Nat} {w w' : World} (h : Only S w w') (hB : B ≤ w.heap.size) (hs : ∀ k, k < B → ¬ S k) : Below B w w' := ⟨h.os, h.tape, h.output, h.size, fun k hk => h.block k (by omega) (hs k hk)⟩
set_option maxRecDepth 100000 in
set_option maxHeartbeats 800000 in
theorem fresh_any (b : Nat) (r : Bool) (e d : Value) (w : World) (hb : Blk w b 59 (codCells r e d (beginMid 0))) :
    Calls Tryz.prog 29 #[.pointer (some ⟨b, 0, none⟩)] w fun y w' => y = .returned (.pointer (some ⟨b, 0, none⟩)) ∧ Blk w' b 59 (codCells r e d first64) ∧ Only (· = b) w w' := by
  have Z := hid hb
  clear hb
  go_enter Tryz.func29, Tryz.ntmps29
  go_wp2_with fail
  go_loopg [3] 64 (fun k i wr => ∃ j : Nat, j + k = 64 ∧ i = .int .i64 j ∧ Blk wr b 59 (codCells r e d (beginMid j)) ∧ Only (· = b) w wr)
  case atStart => exact ⟨0, rfl, rfl, Z.out, Only.refl _ _⟩
  case round =>
    obtain ⟨j, hj, rfl, hb, ho⟩ := hrel
    by_cases hlt : j < 64
    · have h0 := hb.cell (3 + j)
      have f0 := hb.frozen (3 + j)
      rw [cod_get _ _ _ _ _ (by rw [beginMid_len _ (by omega)]; omega), beginMid_get j hlt] at h0
      have X := hid (And.intro hb ho)
      clear hb ho
      have k0 : (0 : Int) ≤ (j : Int) := by omega
      have k1 : (j : Int) < 64 := by omega
      go_wp2
      go_roundg (gk - 1)
      case measure => omega
      case rel =>
        refine ⟨j + 1, by omega, by go_num, ?_, X.out.2.put (by rfl) (3 + j) _⟩
        have := X.out.1.put (3 + j) (.int .i64 (1024 : Nat))
        rw [cod_set, beginMid_set j hlt] at this
        exact this
    · obtain rfl : j = 64 := by omega
      have X := hid (And.intro hb ho)
      clear hb ho
      go_wp2
      go_ret
      exact ⟨rfl, X.out.1, X.out.2⟩

structure XwAt (w : World) (b eb : Nat) (v : Value) (s : XWr) : Prop where
  blk : Blk w b 59 (codCells false (.pointer (some ⟨eb, 0, none⟩)) (.pointer none) s.P)
  enc : REncAt w eb v s.e
structure XrAt (w : World) (b db g cap : Nat) (s : XRd) : Prop where
  blk : Blk w b 59 (codCells true (.pointer none) (.pointer (some ⟨db, 0, none⟩)) s.P)
  dec : RDecAt w db g cap s.d
theorem XwAt.ne {w : World} {b eb : Nat} {v : Value} {s : XWr} (h : XwAt w b eb v s) : b ≠ eb := h.blk.apart h.enc.blk (by decide)
theorem XrAt.ne {w : World} {b db g cap : Nat} {s : XRd} (h : XrAt w b db g cap s) : b ≠ db := h.blk.apart h.dec.blk (by decide)
theorem XrAt.neg {w : World} {b db g cap : Nat} {s : XRd} (h : XrAt w b db g cap s) : b ≠ g := by
  obtain ⟨cs, hb, _⟩ := h.dec.bys
  exact h.blk.apart hb (by decide)
theorem rdec_far {w w' : World} {b g c : Nat} {d : Dec} {S : Nat → Prop} (h : RDecAt w b g c d) (ho : Only S w w') (h1 : ¬ S b) (h2 : ¬ S g) : RDecAt w' b g c d :=
  ⟨h.blk.keep ho h1, h.bys.only ho h2, h.len⟩
theorem renc_blk_ne {w : World} {b eb : Nat} {v : Value} {e : REnc} {t : TypeId} {cs : Array Value} (h : REncAt w eb v e) (hb : Blk w b t cs) (ht : 5 ≠ t) : ∀ k, v.ownBlock = some k → b ≠ k := by
  intro k hk
  rcases h.own.2 with ⟨rfl, _⟩ | ⟨g, cap, cur, rfl, _, hg, _⟩
  · simp [Value.ownBlock] at hk
  · simp [Value.ownBlock] at hk
    subst hk
    exact fun e => ht (by subst e; exact (Blk.uniq (t := 5) hg hb).1)
structure XWr.Ok (s : XWr) (lim : Nat) : Prop where
  P : POk s.P
  e : s.e.Ok lim
structure XRd.Ok (s : XRd) (lim : Nat) : Prop where
  P : POk s.P
  d : s.d.ROk lim
def XwMoved (w : World) (b eb : Nat) (v : Value) (s : XWr) (w' : World) : Prop := ∃ v', XwAt w' b eb v' s ∧ Only (Fw b eb v) w w' ∧ Fresh w v v'
def XrMoved (w : World) (b db g cap : Nat) (s : XRd) (w' : World) : Prop := XrAt w' b db g cap s ∧ Only (Fr b db) w w'

set_option maxRecDepth 100000 in
set_option maxHeartbeats 400000 in
theorem xw_flat (b eb : Nat) (v : Value) (u : Bool) (s : XWr) (w : World) (hs : XwAt w b eb v s) (ho : s.Ok 1000000004) :
    Calls Tryz.prog 64 #[.pointer (some ⟨b, 0, none⟩), .bool u] w fun e w' => e = .returned (.bool u) ∧ XwMoved w b eb v (s.flat u).2 w' := by
  have h0 := hs.blk.cell 0
  have h1 := hs.blk.cell 1
  rw [cod_0] at h0
  rw [cod_1] at h1
  have S := hid (And.intro hs ho)
  clear hs ho
  go_enter Tryz.func64, Tryz.ntmps64
  go_wp2_with fail
  refine (renc_flat eb v u s.e _ S.out.1.enc S.out.2.e).mono ?_
  rintro y w' ⟨rfl, hp⟩
  have P := hid hp
  clear hp
  go_wp2
  go_ret
  obtain ⟨v', h1, h2, h3⟩ := P.out
  obtain ⟨hs, _⟩ := S.out
  refine ⟨rfl, v', ⟨?_, h1⟩, h2.mono (fun _ _ h => .inr h), h3⟩
  refine hs.blk.keep h2 ?_
  rintro (h | h)
  · exact hs.ne h
  · exact renc_blk_ne hs.enc hs.blk (by decide) _ h rfl

set_option maxRecDepth 100000 in
set_option maxHeartbeats 400000 in
theorem xr_flat (b db g cap : Nat) (u : Bool) (s : XRd) (w : World) (hs : XrAt w b db g cap s) (ho : s.Ok 1000000000) :
    Calls Tryz.prog 64 #[.pointer (some ⟨b, 0, none⟩), .bool u] w fun e w' => e = .returned (.bool (s.flat u).1) ∧ XrMoved w b db g cap (s.flat u).2 w' := by
  have h0 := hs.blk.cell 0
  have h1 := hs.blk.cell 2
  rw [cod_0] at h0
  rw [cod_2] at h1
  have S := hid (And.intro hs ho)
  clear hs ho
  go_enter Tryz.func64, Tryz.ntmps64
  go_wp2_with fail
  refine (rdec_flat db g cap s.d _ S.out.1.dec S.out.2.d).mono ?_
  rintro y w' ⟨rfl, h1, h2⟩
  have P := hid (And.intro h1 h2)
  clear h1 h2
  go_wp2
  go_ret
  obtain ⟨h1, h2⟩ := P.out
  obtain ⟨hs, _⟩ := S.out
  exact ⟨rfl, ⟨hs.blk.keep h2 hs.ne, h1⟩, h2.mono (fun _ _ h => .inr h)⟩

set_option maxRecDepth 100000 in
set_option maxHeartbeats 400000 in
theorem xw_bit_out (b eb : Nat) (v : Value) (c : Int) (u : Bool) (s : XWr) (w : World) (hs : XwAt w b eb v s) (ho : s.Ok 1000000004) (hc : c < 0 ∨ 64 ≤ c) :
    Calls Tryz.prog 65 #[.pointer (some ⟨b, 0, none⟩), .int .i64 c, .bool u] w fun e w' => e = .returned (.bool u) ∧ XwMoved w b eb v (s.flat u).2 w' := by
  have S := hid (And.intro hs ho)
  clear hs ho
  have hx : c < 0 ∨ (0 ≤ c ∧ 63 < c) := by omega
  clear hc
  rcases hx with hc | ⟨hc, hc'⟩
  all_goals
    go_enter Tryz.func65, Tryz.ntmps65
    go_wp2_with fail
    refine (xw_flat b eb v u s _ S.out.1 S.out.2).mono ?_
    rintro y w' ⟨rfl, hp⟩
    have P := hid hp
    clear hp
    go_wp2_with fail
    go_ret
    exact ⟨rfl, P.out⟩
set_option maxRecDepth 100000 in
set_option maxHeartbeats 400000 in
theorem xr_bit_out (b db g cap : Nat) (c : Int) (u : Bool) (s : XRd) (w : World) (hs : XrAt w b db g cap s) (ho : s.Ok 1000000000) (hc : c < 0 ∨ 64 ≤ c) :
    Calls Tryz.prog 65 #[.pointer (some ⟨b, 0, none⟩), .int .i64 c, .bool u] w fun e w' => e = .returned (.bool (s.flat u).1) ∧ XrMoved w b db g cap (s.flat u).2 w' := by
  have S := hid (And.intro hs ho)
  clear hs ho
  have hx : c < 0 ∨ (0 ≤ c ∧ 63 < c) := by omega
  clear hc
  rcases hx with hc | ⟨hc, hc'⟩
  all_goals
    go_enter Tryz.func65, Tryz.ntmps65
    go_wp2_with fail
    refine (xr_flat b db g cap u s _ S.out.1 S.out.2).mono ?_
    rintro y w' ⟨rfl, hp⟩
    have P := hid hp
    clear hp
    go_wp2_with fail
    go_ret
    exact ⟨rfl, P.out⟩

set_option maxRecDepth 100000 in
set_option maxHeartbeats 800000 in
theorem xw_bit (b eb c : Nat) (v : Value) (u : Bool) (s : XWr) (w : World) (hs : XwAt w b eb v s) (ho : s.Ok 1000000004) (hc : c < 64) :
    Calls Tryz.prog 65 #[.pointer (some ⟨b, 0, none⟩), .int .i64 c, .bool u] w fun e w' => e = .returned (.bool u) ∧ XwMoved w b eb v (s.bit c u).2 w' := by
  have h0 := hs.blk.cell 0
  have h1 := hs.blk.cell 1
  rw [cod_0] at h0
  rw [cod_1] at h1
  have hcc := hs.blk.cell (3 + c)
  have hcl : c < s.P.length := by rw [ho.P.len]; exact hc
  rw [cod_get _ _ _ _ _ hcl] at hcc
  have c0 : (0 : Int) ≤ (c : Int) := by omega
  have c1 : (c : Int) < 64 := by omega
  have hp1 := ho.P.lo c hc
  have hp2 := ho.P.hi c hc
  have S := hid (And.intro hs ho)
  clear hs ho
  generalize hpp : s.P.getD c 0 = p at *
  have PP := hid hpp
  clear hpp
  have el : ((if u then (p : Int) - (p : Int) / 32 else (p : Int) + (2048 - (p : Int)) / 32)) = ((learnP p u : Nat) : Int) := by
    cases u <;> simp only [learnP] <;> simp <;> omega
  have EL := hid el
  clear el
  go_enter Tryz.func65, Tryz.ntmps65
  go_wp2_with fail
  refine (renc_code eb p v u s.e _ S.out.1.enc S.out.2.e (by omega) (by omega)).mono ?_
  rintro y w' ⟨rfl, v', h1, h2, h3⟩
  have hnb : ¬ Fp eb v b := by
    rintro (h | h)
    · exact S.out.1.ne h
    · exact renc_blk_ne S.out.1.enc S.out.1.blk (by decide) _ h rfl
  have hb := S.out.1.blk.keep h2 hnb
  have hcc' := hb.cell (3 + c)
  rw [cod_get _ _ _ _ _ hcl, PP.out] at hcc'
  have fcc' := hb.frozen (3 + c)
  have X := hid (And.intro h1 (And.intro h2 (And.intro h3 hb)))
  clear h1 h2 h3 hb hnb hcc h0
  have fin : XwMoved w b eb v (s.bit c u).2 (w'.setCell ⟨b, 3 + c, none⟩ (.int .i64 (learnP p u : Nat))) := by
    obtain ⟨h1, h2, h3, hb⟩ := X.out
    have hne : b ≠ eb := S.out.1.ne
    refine ⟨v', ⟨?_, ?_⟩, (h2.mono (fun _ _ h => .inr h)).put (.inl rfl) (3 + c) _, h3⟩
    · have := hb.put (3 + c) (.int .i64 (learnP p u : Nat))
      rw [cod_set] at this
      show Blk _ _ _ (codCells _ _ _ (s.P.set c (learnP (s.P.getD c 0) u)))
      rw [PP.out]
      exact this
    · have := renc_far (S := (· = b)) h1 ((Only.refl _ w').put (by rfl) (3 + c) (.int .i64 (learnP p u : Nat))) (fun e => hne e.symm) (fun k hk e => renc_blk_ne h1 hb (by decide) _ hk e.symm)
      show REncAt _ _ _ (s.e.narrow (s.e.R / 2048 * s.P.getD c 0) u)
      rw [PP.out]
      exact this
  have FIN := hid fin
  clear fin
  cases u with
  | true =>
    go_wp2_with fail
    go_ret
    have e := EL.out
    simp only [if_true] at e
    rw [e]
    exact ⟨rfl, FIN.out⟩
  | false =>
    go_wp2_with fail
    go_ret
    have e := EL.out
    simp only [Bool.false_eq_true, if_false] at e
    rw [e]
    exact ⟨rfl, FIN.out⟩

set_option maxRecDepth 100000 in
set_option maxHeartbeats 800000 in
theorem xr_bit (b db g cap c : Nat) (u : Bool) (s : XRd) (w : World) (hs : XrAt w b db g cap s) (ho : s.Ok 1000000000) (hc : c < 64) :
    Calls Tryz.prog 65 #[.pointer (some ⟨b, 0, none⟩), .int .i64 c, .bool u] w fun e w' => e = .returned (.bool (s.bit c u).1) ∧ XrMoved w b db g cap (s.bit c u).2 w' := by
  have h0 := hs.blk.cell 0
  have h1 := hs.blk.cell 2
  rw [cod_0] at h0
  rw [cod_2] at h1
  have hcc := hs.blk.cell (3 + c)
  have hcl : c < s.P.length := by rw [ho.P.len]; exact hc
  rw [cod_get _ _ _ _ _ hcl] at hcc
  have c0 : (0 : Int) ≤ (c : Int) := by omega
  have c1 : (c : Int) < 64 := by omega
  have hp1 := ho.P.lo c hc
  have hp2 := ho.P.hi c hc
  have S := hid (And.intro hs ho)
  clear hs ho
  generalize hpp : s.P.getD c 0 = p at *
  have PP := hid hpp
  clear hpp
  have hbit : (s.bit c u).1 = s.d.bit (s.d.r / 2048 * p) := by show s.d.bit (s.d.r / 2048 * s.P.getD c 0) = _; rw [PP.out]
  have HB := hid hbit
  clear hbit
  go_enter Tryz.func65, Tryz.ntmps65
  go_wp2_with fail
  refine (rdec_code db g cap p s.d _ S.out.1.dec S.out.2.d (by omega) (by omega)).mono ?_
  rintro y w' ⟨rfl, h1, h2⟩
  have hb := S.out.1.blk.keep h2 S.out.1.ne
  have hcc' := hb.cell (3 + c)
  rw [cod_get _ _ _ _ _ hcl, PP.out] at hcc'
  have fcc' := hb.frozen (3 + c)
  have X := hid (And.intro h1 (And.intro h2 hb))
  clear h1 h2 hb hcc h0
  generalize hq : s.d.bit (s.d.r / 2048 * p) = q at *
  have QQ := hid hq
  clear hq
  have fin : XrMoved w b db g cap (s.bit c u).2 (w'.setCell ⟨b, 3 + c, none⟩ (.int .i64 (learnP p q : Nat))) := by
    obtain ⟨h1, h2, hb⟩ := X.out
    have hne : b ≠ db := S.out.1.ne
    refine ⟨⟨?_, ?_⟩, (h2.mono (fun _ _ h => .inr h)).put (.inl rfl) (3 + c) _⟩
    · have := hb.put (3 + c) (.int .i64 (learnP p q : Nat))
      rw [cod_set] at this
      show Blk _ _ _ (codCells _ _ _ (s.P.set c (learnP (s.P.getD c 0) (s.d.bit (s.d.r / 2048 * s.P.getD c 0)))))
      rw [PP.out, QQ.out]
      exact this
    · have := rdec_far (S := (· = b)) h1 ((Only.refl _ w').put (by rfl) (3 + c) (.int .i64 (learnP p q : Nat))) (fun e => hne e.symm) (fun e => S.out.1.neg e.symm)
      show RDecAt _ _ _ _ (s.d.rnarrow (s.d.r / 2048 * s.P.getD c 0))
      rw [PP.out]
      exact this
  have FIN := hid fin
  clear fin
  have el : ((if q then (p : Int) - (p : Int) / 32 else (p : Int) + (2048 - (p : Int)) / 32)) = ((learnP p q : Nat) : Int) := by
    cases q <;> simp only [learnP] <;> simp <;> omega
  have EL := hid el
  clear el
  cases q with
  | true =>
    go_wp2_with fail
    go_ret
    have e := EL.out
    simp only [if_true] at e
    rw [e, HB.out]
    exact ⟨rfl, FIN.out⟩
  | false =>
    go_wp2_with fail
    go_ret
    have e := EL.out
    simp only [Bool.false_eq_true, if_false] at e
    rw [e, HB.out]
    exact ⟨rfl, FIN.out⟩

def XWr.new : XWr := ⟨first64, REnc.new⟩
def XwNew (w : World) (e : Ending) (w' : World) : Prop :=
  ∃ b eb v, e = .returned (.pointer (some ⟨b, 0, none⟩)) ∧ XwAt w' b eb v XWr.new ∧ (∀ k, Fw b eb v k → w.heap.size ≤ k) ∧ Below w.heap.size w w'
def XRd.new (bs : List UInt8) : XRd := ⟨first64, Dec.rnew bs⟩
def XrNew (w : World) (bs : List UInt8) (e : Ending) (w' : World) : Prop :=
  ∃ b db g cap, e = .returned (.pointer (some ⟨b, 0, none⟩)) ∧ XrAt w' b db g cap (XRd.new bs) ∧ w.heap.size ≤ b ∧ w.heap.size ≤ db ∧ w.heap.size ≤ g ∧ Below w.heap.size w w'

set_option maxRecDepth 100000 in
set_option maxHeartbeats 400000 in
theorem xnew_writer (w : World) : Calls Tryz.prog 8 #[] w (XwNew w) := by
  go_enter Tryz.func8, Tryz.ntmps8
  go_wp2_with fail
  refine (rnew_encoder _).mono ?_
  rintro e w1 ⟨eb, v, rfl, h1, h2, h3, h4⟩
  have H1 := hid (And.intro h1 (And.intro h2 (And.intro h3 h4)))
  clear h1 h2 h3 h4
  go_wp2_with fail
  refine (fresh_any w1.heap.size false (.pointer (some ⟨eb, 0, none⟩)) (.pointer none) _ (Blk.new w1 _ _)).mono ?_
  rintro e w2 ⟨rfl, h1, h2⟩
  have H2 := hid (And.intro h1 h2)
  clear h1 h2
  go_wp2_with fail
  go_ret
  obtain ⟨h1, h2, h3, h4⟩ := H1.out
  obtain ⟨h5, h6⟩ := H2.out
  have hlt := h1.blk.lt
  have hs := h4.size
  have hvl := own_lt h1.own
  refine ⟨w1.heap.size, eb, v, rfl, ⟨h5, ?_⟩, ?_, ?_⟩
  · refine renc_far h1 (((Only.refl (· = w1.heap.size) w1).alloc _).trans h6) (by omega) (fun k hk e => ?_)
    have := hvl k hk
    omega
  · rintro k (rfl | rfl | h)
    · omega
    · omega
    · exact h3 k h
  · refine h4.trans (below_mono_only (((Only.refl (· = w1.heap.size) w1).alloc _).trans h6) hs (fun k hk => by omega))
set_option maxRecDepth 100000 in
set_option maxHeartbeats 400000 in
theorem xnew_reader (x : Value) (bs : List UInt8) (w : World) (hx : From w 1 x bs.length (bs.map byteV)) (hl : bs.length ≤ 1000000000) :
    Calls Tryz.prog 19 #[x] w (XrNew w bs) := by
  have X := hid hx
  clear hx
  go_enter Tryz.func19, Tryz.ntmps19
  go_wp2_with fail
  refine (rnew_decoder x bs _ X.out hl).mono ?_
  rintro e w1 ⟨db, g, cap, rfl, h1, h2, h3, h4⟩
  have H1 := hid (And.intro h1 (And.intro h2 (And.intro h3 h4)))
  clear h1 h2 h3 h4
  go_wp2_with fail
  refine (fresh_any w1.heap.size true (.pointer none) (.pointer (some ⟨db, 0, none⟩)) _ (Blk.new w1 _ _)).mono ?_
  rintro e w2 ⟨rfl, h1, h2⟩
  have H2 := hid (And.intro h1 h2)
  clear h1 h2
  go_wp2_with fail
  go_ret
  obtain ⟨h1, h2, h3, h4⟩ := H1.out
  obtain ⟨h5, h6⟩ := H2.out
  have hlt := h1.blk.lt
  have hs := h4.size
  have hgl : g < w1.heap.size := by obtain ⟨cs, hb, _⟩ := h1.bys; exact hb.lt
  refine ⟨w1.heap.size, db, g, cap, rfl, ⟨h5, ?_⟩, by omega, by omega, by omega, ?_⟩
  · exact rdec_far h1 (((Only.refl (· = w1.heap.size) w1).alloc _).trans h6) (by omega) (by omega)
  · exact h4.trans (below_mono_only (((Only.refl (· = w1.heap.size) w1).alloc _).trans h6) hs (fun k hk => by omega))
end Go.Proofs.YtkkgpdejmcpcpaaGreatDoor

