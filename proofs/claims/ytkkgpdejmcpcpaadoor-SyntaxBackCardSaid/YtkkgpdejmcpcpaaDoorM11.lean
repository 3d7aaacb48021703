/- Parts: XModNew, XCod, XCoder. -/
import Derived.Test.YtkkgpdejmcpcpaaDoorM10
import Derived.Test.YtkkgpdejmcpcpaaDoorM03
/- New writers and readers; End, Over, Chance. -/
namespace Go.Proofs.YtkkgpdejmcpcpaaDoor
open Go.RowKit

theorem fold_wr (q : Value) : ((Array.foldl (fun (cs : Array Value) (x : Value × Nat) => cs.setIfInBounds x.snd x.fst) Tryd.zeroCells94 (chV first64).zipIdx 0 (chV first64).size).setIfInBounds 64 q) = modCells first64 q := by kernel_rfl
theorem fold_rd (q : Value) : ((Array.foldl (fun (cs : Array Value) (x : Value × Nat) => cs.setIfInBounds x.snd x.fst) Tryd.zeroCells90 (chV first64).zipIdx 0 (chV first64).size).setIfInBounds 64 q) = modCells first64 q := by kernel_rfl

def Wr.new : Wr := ⟨first64, Enc.new⟩
def WrNew (w : World) (e : Ending) (w' : World) : Prop :=
  ∃ b eb v, e = .returned (.pointer (some ⟨b, 0, none⟩)) ∧ WrAt w' b eb v Wr.new ∧ (∀ k, Fw b eb v k → w.heap.size ≤ k) ∧ Below w.heap.size w w'
set_option maxRecDepth 100000 in
set_option maxHeartbeats 400000 in
theorem new_writer (w : World) : Calls Tryd.prog 18 #[] w (WrNew w) := by
  have bld := fold_wr
  go_enter Tryd.func18, Tryd.ntmps18
  go_wp2_with fail
  refine (begin_any _).mono ?_
  rintro e w1 ⟨rfl, h1⟩
  have H1 := hid h1
  clear h1
  go_wp2_with fail
  refine (new_encoder _).mono ?_
  rintro e w2 ⟨rfl, h2, h3⟩
  have H2 := hid (And.intro h2 h3)
  clear h2 h3
  go_wp2_with fail
  go_ret
  have hs1 := H1.out.size
  have hs2 := H2.out.2.size
  have hlt := H2.out.1.blk.lt
  refine ⟨w2.heap.size, w1.heap.size, .slice none 0 0, rfl, ⟨Blk.new w2 _ _, ?_⟩, ?_, ?_⟩
  · exact enc_far (S := fun _ => False) H2.out.1 ((Only.refl _ w2).alloc _) (fun h => h) (fun _ _ h => h)
  · rintro k (rfl | rfl | h)
    · omega
    · omega
    · cases h
  · exact (H1.out.trans (H2.out.2.mono hs1)).alloc (by omega) _

def Rd.new (bs : List UInt8) : Rd := ⟨first64, Dec.new bs⟩
def RdNew (w : World) (bs : List UInt8) (e : Ending) (w' : World) : Prop :=
  ∃ b db g cap, e = .returned (.pointer (some ⟨b, 0, none⟩)) ∧ RdAt w' b db g cap (Rd.new bs) ∧ w.heap.size ≤ b ∧ w.heap.size ≤ db ∧ w.heap.size ≤ g ∧ Below w.heap.size w w'
set_option maxRecDepth 100000 in
set_option maxHeartbeats 400000 in
theorem new_reader (x : Value) (bs : List UInt8) (w : World) (hx : From w 1 x bs.length (bs.map byteV)) (hl : bs.length ≤ 140737488355328) :
    Calls Tryd.prog 17 #[x] w (RdNew w bs) := by
  have bld := fold_rd
  have X := hid hx
  clear hx
  go_enter Tryd.func17, Tryd.ntmps17
  go_wp2_with fail
  refine (begin_any _).mono ?_
  rintro e w1 ⟨rfl, h1⟩
  have hf : From w1 1 x bs.length (bs.map byteV) := by
    obtain ⟨A, c, h2, h3, h4⟩ := X.out
    refine ⟨A, c, h2, h3, fun h0 => ?_⟩
    obtain ⟨ad, h5, h6⟩ := h4 h0
    refine ⟨ad, h5, fun j u hu => ?_⟩
    have := h6 j u hu
    rw [h1.cell (World.block_lt_of_cell? _ _ this)]
    exact this
  have H1 := hid (And.intro h1 hf)
  clear h1 hf
  go_wp2_with fail
  refine (new_decoder x bs _ H1.out.2 hl).mono ?_
  rintro e w2 ⟨db, g, cap, rfl, h2, h3, h4, h5⟩
  have H2 := hid (And.intro h2 (And.intro h3 (And.intro h4 h5)))
  clear h2 h3 h4 h5
  go_wp2_with fail
  go_ret
  have hs1 := H1.out.1.size
  obtain ⟨h2, h3, h4, h5⟩ := H2.out
  have hs2 := h5.size
  refine ⟨w2.heap.size, db, g, cap, rfl, ⟨Blk.new w2 _ _, ?_⟩, by omega, by omega, by omega, ?_⟩
  · exact dec_far (S := fun _ => False) h2 ((Only.refl _ w2).alloc _) (fun h => h) (fun h => h)
  · exact (H1.out.1.trans (h5.mono hs1)).alloc (by omega) _

set_option maxHeartbeats 400000 in
theorem wr_end (b eb : Nat) (v : Value) (s : Wr) (w : World) (hs : WrAt w b eb v s) (hp : s.P.length = 64) (hl : s.e.out.length ≤ 1000000010) (hlow : s.e.low ≤ 4294967295) :
    Calls Tryd.prog 25 #[.pointer (some ⟨b, 0, none⟩)] w fun y w' => ∃ g cap, y = .returned (.slice (some ⟨g, 0, none⟩) s.e.bytes.length cap) ∧ w'.ownsRow w.heap.size 5 1 (.slice (some ⟨g, 0, none⟩) s.e.bytes.length cap) s.e.bytes.length (s.e.bytes.map byteV) ∧ Below w.heap.size w w' := by
  have h64 := hs.blk.cell 64
  rw [mod_last _ _ hp] at h64
  have S := hid hs.enc
  clear hs
  go_enter Tryd.func25, Tryd.ntmps25
  go_wp2_with fail
  refine (enc_end eb v s.e _ S.out hl hlow).mono ?_
  rintro y w' ⟨g, cap, rfl, h1, h2⟩
  have P := hid (And.intro h1 h2)
  clear h1 h2
  go_wp2
  go_ret
  exact ⟨g, cap, rfl, P.out.1, P.out.2⟩

def chanceOf (P : List Nat) (c : Int) : Int := if 0 ≤ c ∧ c < 64 then (P.getD c.toNat 0 : Nat) else 0
end Go.Proofs.YtkkgpdejmcpcpaaDoor

/- The document's coder: fresh, Writer, Reader, Flat, Bit, Chance. -/
namespace Go.Proofs.YtkkgpdejmcpcpaaDoor
open Go.RowKit

def codCells (r : Bool) (e d : Value) (P : List Nat) : Array Value := ([.bool r, e, d] ++ P.map (fun p => Value.int .i64 (p : Nat))).toArray
theorem cod_get (r : Bool) (e d : Value) (P : List Nat) (i : Nat) (h : i < P.length) : (codCells r e d P)[3 + i]? = some (.int .i64 (P.getD i 0 : Nat)) := by
  have : 3 + i = i + 3 := by omega
  rw [this]
  simp [codCells, h, List.getD]
theorem cod_set (r : Bool) (e d : Value) (P : List Nat) (i v : Nat) : (codCells r e d P).setIfInBounds (3 + i) (.int .i64 (v : Nat)) = codCells r e d (P.set i v) := by
  have : 3 + i = i + 3 := by omega
  rw [this]
  simp [codCells, List.map_set]
theorem cod_0 (r : Bool) (e d : Value) (P : List Nat) : (codCells r e d P)[0]? = some (.bool r) := by simp [codCells]
theorem cod_1 (r : Bool) (e d : Value) (P : List Nat) : (codCells r e d P)[1]? = some e := by simp [codCells]
theorem cod_2 (r : Bool) (e d : Value) (P : List Nat) : (codCells r e d P)[2]? = some d := by simp [codCells]

theorem below_mono_only {S : Nat → Prop} {B : Nat} {w w' : World} (h : Only S w w') (hB : B ≤ w.heap.size) (hs : ∀ k, k < B → ¬ S k) : Below B w w' := ⟨h.os, h.tape, h.output, h.size, fun k hk => h.block k (by omega) (hs k hk)⟩
structure XWr.Ok (s : XWr) (lim : Nat) : Prop where
  P : POk s.P
  e : s.e.Ok lim
structure XRd.Ok (s : XRd) (lim : Nat) : Prop where
  P : POk s.P
  d : s.d.ROk lim
def XWr.new : XWr := ⟨first64, REnc.new⟩
def XRd.new (bs : List UInt8) : XRd := ⟨first64, Dec.rnew bs⟩
end Go.Proofs.YtkkgpdejmcpcpaaDoor

/- What a coder object is: four of them, of one shape: the writer, the reader, the document's two. -/
namespace Go.Proofs.YtkkgpdejmcpcpaaDoor
open Go.RowKit

/-- From w to w' the object with the blocks F has come to the state s. -/
def Moved {σ : Type} (At : World → (Nat → Prop) → σ → Prop) (w : World) (F : Nat → Prop) (s : σ) (w' : World) : Prop :=
  ∃ F', At w' F' s ∧ Only F w w' ∧ ∀ k, F' k → F k ∨ w.heap.size ≤ k

theorem Only.of_below_up {w w' : World} (h : Below w.heap.size w w') : Only (fun k => w.heap.size ≤ k) w w' := ⟨h.os, h.tape, h.output, h.size, fun k hk _ => h.block k hk⟩

/-- A coder: its machine M; the functions of its Bit and Flat, called with me. -/
structure IsCoder {σ : Type} (M : Mach σ) (fB fF : FuncId) (me : Value) (At : World → (Nat → Prop) → σ → Prop) (Ok : σ → Nat → Prop) : Prop where
  bit : ∀ (w : World) (F : Nat → Prop) (s : σ) (c : Int) (u : Bool) (n : Nat), At w F s → Ok s n → n ≤ 1000000000 →
    Calls Tryd.prog fB #[me, .int .i64 c, .bool u] w fun e w' => e = .returned (.bool (M.anyBit s c u).1) ∧ Moved At w F (M.anyBit s c u).2 w'
  flat : ∀ (w : World) (F : Nat → Prop) (s : σ) (u : Bool) (n : Nat), At w F s → Ok s n → n ≤ 1000000000 →
    Calls Tryd.prog fF #[me, .bool u] w fun e w' => e = .returned (.bool (M.flat s u).1) ∧ Moved At w F (M.flat s u).2 w'
  okBit : ∀ (s : σ) (c : Int) (u : Bool) (n : Nat), Ok s n → Ok (M.anyBit s c u).2 (n + 3)
  okFlat : ∀ (s : σ) (u : Bool) (n : Nat), Ok s n → Ok (M.flat s u).2 (n + 3)
  keep : ∀ (w w' : World) (F S : Nat → Prop) (s : σ), At w F s → Only S w w' → (∀ k, F k → ¬ S k) → At w' F s
  there : ∀ (w : World) (F : Nat → Prop) (s : σ) (k : Nat), At w F s → F k → k < w.heap.size

section
variable {σ : Type} {M : Mach σ} {At : World → (Nat → Prop) → σ → Prop} {w w' w'' : World} {F : Nat → Prop} {s s' : σ}
theorem Moved.refl (h : At w F s) : Moved At w F s w := ⟨F, h, Only.refl _ _, fun _ h => .inl h⟩
theorem Moved.trans (h : Moved At w F s w') (k : ∀ F', At w' F' s → Moved At w' F' s' w'') : Moved At w F s' w'' := by
  obtain ⟨F1, a1, o1, f1⟩ := h
  obtain ⟨F2, a2, o2, f2⟩ := k F1 a1
  have hs := o1.size
  refine ⟨F2, a2, ⟨o2.os.trans o1.os, o2.tape.trans o1.tape, o2.output.trans o1.output, Nat.le_trans o1.size o2.size, fun k hk hn => ?_⟩, fun k hk => ?_⟩
  · have : ¬ F1 k := by
      intro h
      rcases f1 k h with h | h
      · exact hn h
      · omega
    exact (o2.block k (by omega) this).trans (o1.block k hk hn)
  · rcases f2 k hk with h | h
    · exact f1 k h
    · exact .inr (by omega)
theorem Moved.step {F1 : Nat → Prop} (o1 : Only F w w') (f1 : ∀ k, F1 k → F k ∨ w.heap.size ≤ k) (k : Moved At w' F1 s' w'') : Moved At w F s' w'' := by
  obtain ⟨F2, a2, o2, f2⟩ := k
  have hs := o1.size
  refine ⟨F2, a2, ⟨o2.os.trans o1.os, o2.tape.trans o1.tape, o2.output.trans o1.output, Nat.le_trans o1.size o2.size, fun k hk hn => ?_⟩, fun k hk => ?_⟩
  · have : ¬ F1 k := by
      intro h
      rcases f1 k h with h | h
      · exact hn h
      · omega
    exact (o2.block k (by omega) this).trans (o1.block k hk hn)
  · rcases f2 k hk with h | h
    · exact f1 k h
    · exact .inr (by omega)
theorem Moved.cell (h : Moved At w F s w') {p : Addr} (hp : p.block < w.heap.size) (hn : ¬ F p.block) : w'.cell? p = w.cell? p := by
  obtain ⟨_, _, o, _⟩ := h
  exact o.cell hp hn
theorem Moved.size (h : Moved At w F s w') : w.heap.size ≤ w'.heap.size := by
  obtain ⟨_, _, o, _⟩ := h
  exact o.size
end

theorem IsCoder.bitN {σ : Type} {M : Mach σ} {fB fF : FuncId} {me : Value} {At : World → (Nat → Prop) → σ → Prop} {Ok : σ → Nat → Prop} (H : IsCoder M fB fF me At Ok)
    (w : World) (F : Nat → Prop) (s : σ) (c : Nat) (x : Int) (hx : x = (c : Nat)) (hc : c < 64) (u : Bool) (n : Nat) (ha : At w F s) (ho : Ok s n) (hn : n ≤ 1000000000) :
    Calls Tryd.prog fB #[me, .int .i64 x, .bool u] w fun e w' => e = .returned (.bool (M.bit s c u).1) ∧ Moved At w F (M.bit s c u).2 w' ∧ Ok (M.bit s c u).2 (n + 3) := by
  subst hx
  have h1 := H.bit w F s (c : Int) u n ha ho hn
  have h2 := H.okBit s (c : Int) u n ho
  rw [Mach.anyBit_nat _ _ _ _ hc] at h1 h2
  exact h1.mono fun e w' ⟨h3, h4⟩ => ⟨h3, h4, h2⟩
theorem IsCoder.flatN {σ : Type} {M : Mach σ} {fB fF : FuncId} {me : Value} {At : World → (Nat → Prop) → σ → Prop} {Ok : σ → Nat → Prop} (H : IsCoder M fB fF me At Ok)
    (w : World) (F : Nat → Prop) (s : σ) (u : Bool) (n : Nat) (ha : At w F s) (ho : Ok s n) (hn : n ≤ 1000000000) :
    Calls Tryd.prog fF #[me, .bool u] w fun e w' => e = .returned (.bool (M.flat s u).1) ∧ Moved At w F (M.flat s u).2 w' ∧ Ok (M.flat s u).2 (n + 3) :=
  (H.flat w F s u n ha ho hn).mono fun _ _ ⟨h3, h4⟩ => ⟨h3, h4, H.okFlat s u n ho⟩

def AtWr (b : Nat) (w : World) (F : Nat → Prop) (s : Wr) : Prop := ∃ eb v, WrAt w b eb v s ∧ F = Fw b eb v
def AtRd (b : Nat) (w : World) (F : Nat → Prop) (s : Rd) : Prop := ∃ db g cap, RdAt w b db g cap s ∧ F = fun k => k = b ∨ k = db ∨ k = g
theorem moved_wr {b eb : Nat} {v : Value} {s : Wr} {w w' : World} (h : WrMoved w b eb v s w') : Moved (AtWr b) w (Fw b eb v) s w' := by
  obtain ⟨v', h1, h2, h3⟩ := h
  refine ⟨_, ⟨eb, v', h1, rfl⟩, h2, ?_⟩
  rintro k (h | h | h)
  · exact .inl (.inl h)
  · exact .inl (.inr (.inl h))
  · rcases h3 k h with h | h
    · exact .inl (.inr (.inr h))
    · exact .inr h
theorem moved_rd {b db g cap : Nat} {s : Rd} {w w' : World} (h : RdMoved w b db g cap s w') : Moved (AtRd b) w (fun k => k = b ∨ k = db ∨ k = g) s w' := by
  obtain ⟨h1, h2⟩ := h
  exact ⟨_, ⟨db, g, cap, h1, rfl⟩, h2.mono (fun k _ h => by rcases h with h | h; exact .inl h; exact .inr (.inl h)), fun k hk => .inl hk⟩
theorem any_in {σ : Type} (M : Mach σ) (s : σ) (c : Int) (u : Bool) (h : 0 ≤ c ∧ c < 64) : M.anyBit s c u = M.bit s c.toNat u := by unfold Mach.anyBit; rw [if_pos h]
theorem any_out {σ : Type} (M : Mach σ) (s : σ) (c : Int) (u : Bool) (h : ¬ (0 ≤ c ∧ c < 64)) : M.anyBit s c u = M.flat s u := by unfold Mach.anyBit; rw [if_neg h]
theorem Enc.Ok.mono {e : Enc} {n m : Nat} (h : e.Ok n) (hm : n ≤ m) : e.Ok m := ⟨h.r0, h.r1, h.low, Nat.le_trans h.len hm⟩
theorem REnc.Ok.mono {e : REnc} {n m : Nat} (h : e.Ok n) (hm : n ≤ m) : e.Ok m := ⟨h.r0, h.r1, Nat.le_trans h.len hm⟩
theorem Dec.Ok.mono {e : Dec} {n m : Nat} (h : e.Ok n) (hm : n ≤ m) : e.Ok m := ⟨h.r0, h.r1, h.off, Nat.le_trans h.at_ hm⟩
theorem Dec.ROk.mono {e : Dec} {n m : Nat} (h : e.ROk n) (hm : n ≤ m) : e.ROk m := ⟨h.r0, h.r1, h.off, Nat.le_trans h.at_ hm⟩

theorem wr_coder (b : Nat) : IsCoder wrM 102 104 (.pointer (some ⟨b, 0, none⟩)) (AtWr b) Wr.Ok where
  bit := by
    rintro w F s c u n ⟨eb, v, hs, rfl⟩ ho hn
    have ho' : s.Ok 1000000000 := ⟨ho.P, ho.e.mono hn⟩
    by_cases h : 0 ≤ c ∧ c < 64
    · rw [any_in _ _ _ _ h]
      obtain ⟨m, rfl⟩ := Int.eq_ofNat_of_zero_le h.1
      exact (wr_bit b eb m v u s w hs ho' (by omega)).mono fun e w' ⟨h1, h2⟩ => ⟨h1, moved_wr h2⟩
    · rw [any_out _ _ _ _ h]
      exact (wr_bit_out b eb v c u s w hs ho' (by omega)).mono fun e w' ⟨h1, h2⟩ => ⟨h1, moved_wr h2⟩
  flat := by
    rintro w F s u n ⟨eb, v, hs, rfl⟩ ho hn
    exact (wr_flat b eb v u s w hs ⟨ho.P, ho.e.mono hn⟩).mono fun e w' ⟨h1, h2⟩ => ⟨h1, moved_wr h2⟩
  okBit := by
    intro s c u n ho
    by_cases h : 0 ≤ c ∧ c < 64
    · rw [any_in _ _ _ _ h]
      have hc : c.toNat < 64 := by omega
      have := share_ok (p := s.P.getD c.toNat 0) ho.e.r0 (by have := ho.P.lo _ hc; omega) (by have := ho.P.hi _ hc; omega)
      exact ⟨ho.P.learn _ hc _, Enc.narrow_ok ho.e this.1 this.2 _⟩
    · rw [any_out _ _ _ _ h]
      have := half_ok ho.e.r0
      exact ⟨ho.P, Enc.narrow_ok ho.e this.1 this.2 _⟩
  okFlat := fun s u n ho => ⟨ho.P, Enc.narrow_ok ho.e (half_ok ho.e.r0).1 (half_ok ho.e.r0).2 _⟩
  keep := by
    rintro w w' F S s ⟨eb, v, hs, rfl⟩ ho hn
    exact ⟨eb, v, ⟨hs.blk.keep ho (hn _ (.inl rfl)), enc_far hs.enc ho (hn _ (.inr (.inl rfl))) (fun k hk => hn _ (.inr (.inr hk)))⟩, rfl⟩
  there := by
    rintro w F s k ⟨eb, v, hs, rfl⟩ (rfl | rfl | h)
    · exact hs.blk.lt
    · exact hs.enc.blk.lt
    · exact own_lt hs.enc.own k h
theorem bys_lt {w : World} {g : Nat} {bs : List UInt8} (h : Bys w g bs) : g < w.heap.size := by obtain ⟨cs, hb, _⟩ := h; exact hb.lt
theorem rd_coder (b : Nat) : IsCoder rdM 93 94 (.pointer (some ⟨b, 0, none⟩)) (AtRd b) Rd.Ok where
  bit := by
    rintro w F s c u n ⟨db, g, cap, hs, rfl⟩ ho hn
    have ho' : s.Ok 1000000000 := ⟨ho.P, ho.d.mono hn⟩
    by_cases h : 0 ≤ c ∧ c < 64
    · rw [any_in _ _ _ _ h]
      obtain ⟨m, rfl⟩ := Int.eq_ofNat_of_zero_le h.1
      exact (rd_bit b db g cap m u s w hs ho' (by omega)).mono fun e w' ⟨h1, h2⟩ => ⟨h1, moved_rd h2⟩
    · rw [any_out _ _ _ _ h]
      exact (rd_bit_out b db g cap c u s w hs ho' (by omega)).mono fun e w' ⟨h1, h2⟩ => ⟨h1, moved_rd h2⟩
  flat := by
    rintro w F s u n ⟨db, g, cap, hs, rfl⟩ ho hn
    exact (rd_flat b db g cap u s w hs ⟨ho.P, ho.d.mono hn⟩).mono fun e w' ⟨h1, h2⟩ => ⟨h1, moved_rd h2⟩
  okBit := by
    intro s c u n ho
    by_cases h : 0 ≤ c ∧ c < 64
    · rw [any_in _ _ _ _ h]
      have hc : c.toNat < 64 := by omega
      have := share_ok (p := s.P.getD c.toNat 0) ho.d.r0 (by have := ho.P.lo _ hc; omega) (by have := ho.P.hi _ hc; omega)
      exact ⟨ho.P.learn _ hc _, (Dec.narrow_ok ho.d this.1 this.2).1⟩
    · rw [any_out _ _ _ _ h]
      have := half_ok ho.d.r0
      exact ⟨ho.P, (Dec.narrow_ok ho.d this.1 this.2).1⟩
  okFlat := fun s u n ho => ⟨ho.P, (Dec.narrow_ok ho.d (half_ok ho.d.r0).1 (half_ok ho.d.r0).2).1⟩
  keep := by
    rintro w w' F S s ⟨db, g, cap, hs, rfl⟩ ho hn
    exact ⟨db, g, cap, ⟨hs.blk.keep ho (hn _ (.inl rfl)), dec_far hs.dec ho (hn _ (.inr (.inl rfl))) (hn _ (.inr (.inr rfl)))⟩, rfl⟩
  there := by
    rintro w F s k ⟨db, g, cap, hs, rfl⟩ (rfl | rfl | rfl)
    · exact hs.blk.lt
    · exact hs.dec.blk.lt
    · exact bys_lt hs.dec.bys
/-- A value of the interface whose methods are these. -/
structure Speaks (T : TypeId) (p : Value) (fB fF : FuncId) : Prop where
  bit : ∀ w : World, (method 297 T p "Bit").run Tryd.prog w = .ok (fB, p) w
  flat : ∀ w : World, (method 297 T p "Flat").run Tryd.prog w = .ok (fF, p) w
  callBit : ∀ (x y z : Value) (w : World), (callFunc fB #[x, y, z]).run Tryd.prog w = .ok (.enter fB #[x, y, z]) w
  callFlat : ∀ (x y : Value) (w : World), (callFunc fF #[x, y]).run Tryd.prog w = .ok (.enter fF #[x, y]) w
theorem wr_speaks (b : Nat) : Speaks 52 (.pointer (some ⟨b, 0, none⟩)) 102 104 := ⟨fun _ => by kernel_rfl, fun _ => by kernel_rfl, fun _ _ _ _ => by kernel_rfl, fun _ _ _ => by kernel_rfl⟩
theorem rd_speaks (b : Nat) : Speaks 50 (.pointer (some ⟨b, 0, none⟩)) 93 94 := ⟨fun _ => by kernel_rfl, fun _ => by kernel_rfl, fun _ _ _ _ => by kernel_rfl, fun _ _ _ => by kernel_rfl⟩
end Go.Proofs.YtkkgpdejmcpcpaaDoor

