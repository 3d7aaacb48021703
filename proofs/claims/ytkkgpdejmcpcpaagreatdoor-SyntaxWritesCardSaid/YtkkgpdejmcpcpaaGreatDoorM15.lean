/- Parts: XCoder. -/
import Derived.Test.YtkkgpdejmcpcpaaGreatDoorM14
import Derived.Test.YtkkgpdejmcpcpaaGreatDoorM03
/- What a coder object is: four of them, of one shape: the writer, the reader, the document's two. -/
namespace Go.Proofs.YtkkgpdejmcpcpaaGreatDoor
open Go.RowKit

/-- From w to w' the object with the blocks F has come to the state s. -/
def Moved {σ : Type} (At : World → (Nat → Prop) → σ → Prop) (w : World) (F : Nat → Prop) (s : σ) (w' : World) : Prop :=
  ∃ F', At w' F' s ∧ Only F w w' ∧ ∀ k, F' k → F k ∨ w.heap.size ≤ k

theorem Only.of_below_up {w w' : World} (h : Below w.heap.size w w') : Only (fun k => w.heap.size ≤ k) w w' := ⟨h.os, h.tape, h.output, h.size, fun k hk _ => h.block k hk⟩

/-- A coder: its machine M; the functions of its Bit and Flat, called with me. -/
structure IsCoder {σ : Type} (M : Mach σ) (fB fF : FuncId) (me : Value) (At : World → (Nat → Prop) → σ → Prop) (Ok : σ → Nat → Prop) : Prop where
  bit : ∀ (w : World) (F : Nat → Prop) (s : σ) (c : Int) (u : Bool) (n : Nat), At w F s → Ok s n → n ≤ 1000000000 →
    Calls Tryz.prog fB #[me, .int .i64 c, .bool u] w fun e w' => e = .returned (.bool (M.anyBit s c u).1) ∧ Moved At w F (M.anyBit s c u).2 w'
  flat : ∀ (w : World) (F : Nat → Prop) (s : σ) (u : Bool) (n : Nat), At w F s → Ok s n → n ≤ 1000000000 →
    Calls Tryz.prog fF #[me, .bool u] w fun e w' => e = .returned (.bool (M.flat s u).1) ∧ Moved At w F (M.flat s u).2 w'
  okBit : ∀ (s : σ) (c : Int) (u : Bool) (n : Nat), Ok s n → Ok (M.anyBit s c u).2 (n + 3)
  okFlat : ∀ (s : σ) (u : Bool) (n : Nat), Ok s n → Ok (M.flat s u).2 (n + 3)
  keep : ∀ (w w' : World) (F S : Nat → Prop) (s : σ), At w F s → Only S w w' → (∀ k, F k → ¬ S k) → At w' F s
  there : ∀ (w : World) (F : Nat → Prop) (s : σ) (k : Nat), At w F s → F k → k < w.heap.size

section
variable {σ : Type} {M : Mach σ} {At : World → (Nat → Prop) → σ → Prop} {w w' w'' : World} {F : Nat → Prop} {s s' : σ}
theorem Moved.refl (h : At w F s) : Moved At w F s w := ⟨F, h, Only.refl _ _, fun _ h => .inl h⟩
theorem Moved.trans (h : Moved At w F s w') (k : ∀ F', At w' F' s → Moved At w' F' s' w'') : Moved At w F s' w'' := by
  obtain ⟨F1, a1, o1, f1⟩ := h
  obtain ⟨F2, a2, o2, f2⟩ := k F1 a1
  have hs := o1.size
  refine ⟨F2, a2, ⟨o2.os.trans o1.os, o2.tape.trans o1.tape, o2.output.trans o1.output, Nat.le_trans o1.size o2.size, fun k hk hn => ?_⟩, fun k hk => ?_⟩
  · have : ¬ F1 k := by
      intro h
      rcases f1 k h with h | h
      · exact hn h
      · omega
    exact (o2.block k (by omega) this).trans (o1.block k hk hn)
  · rcases f2 k hk with h | h
    · exact f1 k h
    · exact .inr (by omega)
theorem Moved.step {F1 : Nat → Prop} (o1 : Only F w w') (f1 : ∀ k, F1 k → F k ∨ w.heap.size ≤ k) (k : Moved At w' F1 s' w'') : Moved At w F s' w'' := by
  obtain ⟨F2, a2, o2, f2⟩ := k
  have hs := o1.size
  refine ⟨F2, a2, ⟨o2.os.trans o1.os, o2.tape.trans o1.tape, o2.output.trans o1.output, Nat.le_trans o1.size o2.size, fun k hk hn => ?_⟩, fun k hk => ?_⟩
  · have : ¬ F1 k := by
      intro h
      rcases f1 k h with h | h
      · exact hn h
      · omega
    exact (o2.block k (by omega) this).trans (o1.block k hk hn)
  · rcases f2 k hk with h | h
    · exact f1 k h
    · exact .inr (by omega)
theorem Moved.cell (h : Moved At w F s w') {p : Addr} (hp : p.block < w.heap.size) (hn : ¬ F p.block) : w'.cell? p = w.cell? p := by
  obtain ⟨_, _, o, _⟩ := h
  exact o.cell hp hn
theorem Moved.size (h : Moved At w F s w') : w.heap.size ≤ w'.heap.size := by
  obtain ⟨_, _, o, _⟩ := h
  exact o.size
end

theorem IsCoder.bitN {σ : Type} {M : Mach σ} {fB fF : FuncId} {me : Value} {At : World → (Nat → Prop) → σ → Prop} {Ok : σ → Nat → Prop} (H : IsCoder M fB fF me At Ok)
    (w : World) (F : Nat → Prop) (s : σ) (c : Nat) (x : Int) (hx : x = (c : Nat)) (hc : c < 64) (u : Bool) (n : Nat) (ha : At w F s) (ho : Ok s n) (hn : n ≤ 1000000000) :
    Calls Tryz.prog fB #[me, .int .i64 x, .bool u] w fun e w' => e = .returned (.bool (M.bit s c u).1) ∧ Moved At w F (M.bit s c u).2 w' ∧ Ok (M.bit s c u).2 (n + 3) := by
  subst hx
  have h1 := H.bit w F s (c : Int) u n ha ho hn
  have h2 := H.okBit s (c : Int) u n ho
  rw [Mach.anyBit_nat _ _ _ _ hc] at h1 h2
  exact h1.mono fun e w' ⟨h3, h4⟩ => ⟨h3, h4, h2⟩
theorem IsCoder.flatN {σ : Type} {M : Mach σ} {fB fF : FuncId} {me : Value} {At : World → (Nat → Prop) → σ → Prop} {Ok : σ → Nat → Prop} (H : IsCoder M fB fF me At Ok)
    (w : World) (F : Nat → Prop) (s : σ) (u : Bool) (n : Nat) (ha : At w F s) (ho : Ok s n) (hn : n ≤ 1000000000) :
    Calls Tryz.prog fF #[me, .bool u] w fun e w' => e = .returned (.bool (M.flat s u).1) ∧ Moved At w F (M.flat s u).2 w' ∧ Ok (M.flat s u).2 (n + 3) :=
  (H.flat w F s u n ha ho hn).mono fun _ _ ⟨h3, h4⟩ => ⟨h3, h4, H.okFlat s u n ho⟩

def AtWr (b : Nat) (w : World) (F : Nat → Prop) (s : Wr) : Prop := ∃ eb v, WrAt w b eb v s ∧ F = Fw b eb v
def AtRd (b : Nat) (w : World) (F : Nat → Prop) (s : Rd) : Prop := ∃ db g cap, RdAt w b db g cap s ∧ F = fun k => k = b ∨ k = db ∨ k = g
def AtXw (b eb : Nat) (w : World) (F : Nat → Prop) (s : XWr) : Prop := ∃ v, XwAt w b eb v s ∧ F = Fw b eb v
def AtXr (b db : Nat) (w : World) (F : Nat → Prop) (s : XRd) : Prop := ∃ g cap, XrAt w b db g cap s ∧ F = fun k => k = b ∨ k = db ∨ k = g

theorem moved_wr {b eb : Nat} {v : Value} {s : Wr} {w w' : World} (h : WrMoved w b eb v s w') : Moved (AtWr b) w (Fw b eb v) s w' := by
  obtain ⟨v', h1, h2, h3⟩ := h
  refine ⟨_, ⟨eb, v', h1, rfl⟩, h2, ?_⟩
  rintro k (h | h | h)
  · exact .inl (.inl h)
  · exact .inl (.inr (.inl h))
  · rcases h3 k h with h | h
    · exact .inl (.inr (.inr h))
    · exact .inr h
theorem moved_xw {b eb : Nat} {v : Value} {s : XWr} {w w' : World} (h : XwMoved w b eb v s w') : Moved (AtXw b eb) w (Fw b eb v) s w' := by
  obtain ⟨v', h1, h2, h3⟩ := h
  refine ⟨_, ⟨v', h1, rfl⟩, h2, ?_⟩
  rintro k (h | h | h)
  · exact .inl (.inl h)
  · exact .inl (.inr (.inl h))
  · rcases h3 k h with h | h
    · exact .inl (.inr (.inr h))
    · exact .inr h
theorem moved_rd {b db g cap : Nat} {s : Rd} {w w' : World} (h : RdMoved w b db g cap s w') : Moved (AtRd b) w (fun k => k = b ∨ k = db ∨ k = g) s w' := by
  obtain ⟨h1, h2⟩ := h
  exact ⟨_, ⟨db, g, cap, h1, rfl⟩, h2.mono (fun k _ h => by rcases h with h | h; exact .inl h; exact .inr (.inl h)), fun k hk => .inl hk⟩
theorem moved_xr {b db g cap : Nat} {s : XRd} {w w' : World} (h : XrMoved w b db g cap s w') : Moved (AtXr b db) w (fun k => k = b ∨ k = db ∨ k = g) s w' := by
  obtain ⟨h1, h2⟩ := h
  exact ⟨_, ⟨g, cap, h1, rfl⟩, h2.mono (fun k _ h => by rcases h with h | h; exact .inl h; exact .inr (.inl h)), fun k hk => .inl hk⟩

theorem any_in {σ : Type} (M : Mach σ) (s : σ) (c : Int) (u : Bool) (h : 0 ≤ c ∧ c < 64) : M.anyBit s c u = M.bit s c.toNat u := by unfold Mach.anyBit; rw [if_pos h]
theorem any_out {σ : Type} (M : Mach σ) (s : σ) (c : Int) (u : Bool) (h : ¬ (0 ≤ c ∧ c < 64)) : M.anyBit s c u = M.flat s u := by unfold Mach.anyBit; rw [if_neg h]
theorem Enc.Ok.mono {e : Enc} {n m : Nat} (h : e.Ok n) (hm : n ≤ m) : e.Ok m := ⟨h.r0, h.r1, h.low, Nat.le_trans h.len hm⟩
theorem REnc.Ok.mono {e : REnc} {n m : Nat} (h : e.Ok n) (hm : n ≤ m) : e.Ok m := ⟨h.r0, h.r1, Nat.le_trans h.len hm⟩
theorem Dec.Ok.mono {e : Dec} {n m : Nat} (h : e.Ok n) (hm : n ≤ m) : e.Ok m := ⟨h.r0, h.r1, h.off, Nat.le_trans h.at_ hm⟩
theorem Dec.ROk.mono {e : Dec} {n m : Nat} (h : e.ROk n) (hm : n ≤ m) : e.ROk m := ⟨h.r0, h.r1, h.off, Nat.le_trans h.at_ hm⟩

theorem wr_coder (b : Nat) : IsCoder wrM 120 122 (.pointer (some ⟨b, 0, none⟩)) (AtWr b) Wr.Ok where
  bit := by
    rintro w F s c u n ⟨eb, v, hs, rfl⟩ ho hn
    have ho' : s.Ok 1000000000 := ⟨ho.P, ho.e.mono hn⟩
    by_cases h : 0 ≤ c ∧ c < 64
    · rw [any_in _ _ _ _ h]
      obtain ⟨m, rfl⟩ := Int.eq_ofNat_of_zero_le h.1
      exact (wr_bit b eb m v u s w hs ho' (by omega)).mono fun e w' ⟨h1, h2⟩ => ⟨h1, moved_wr h2⟩
    · rw [any_out _ _ _ _ h]
      exact (wr_bit_out b eb v c u s w hs ho' (by omega)).mono fun e w' ⟨h1, h2⟩ => ⟨h1, moved_wr h2⟩
  flat := by
    rintro w F s u n ⟨eb, v, hs, rfl⟩ ho hn
    exact (wr_flat b eb v u s w hs ⟨ho.P, ho.e.mono hn⟩).mono fun e w' ⟨h1, h2⟩ => ⟨h1, moved_wr h2⟩
  okBit := by
    intro s c u n ho
    by_cases h : 0 ≤ c ∧ c < 64
    · rw [any_in _ _ _ _ h]
      have hc : c.toNat < 64 := by omega
      have := share_ok (p := s.P.getD c.toNat 0) ho.e.r0 (by have := ho.P.lo _ hc; omega) (by have := ho.P.hi _ hc; omega)
      exact ⟨ho.P.learn _ hc _, Enc.narrow_ok ho.e this.1 this.2 _⟩
    · rw [any_out _ _ _ _ h]
      have := half_ok ho.e.r0
      exact ⟨ho.P, Enc.narrow_ok ho.e this.1 this.2 _⟩
  okFlat := fun s u n ho => ⟨ho.P, Enc.narrow_ok ho.e (half_ok ho.e.r0).1 (half_ok ho.e.r0).2 _⟩
  keep := by
    rintro w w' F S s ⟨eb, v, hs, rfl⟩ ho hn
    exact ⟨eb, v, ⟨hs.blk.keep ho (hn _ (.inl rfl)), enc_far hs.enc ho (hn _ (.inr (.inl rfl))) (fun k hk => hn _ (.inr (.inr hk)))⟩, rfl⟩
  there := by
    rintro w F s k ⟨eb, v, hs, rfl⟩ (rfl | rfl | h)
    · exact hs.blk.lt
    · exact hs.enc.blk.lt
    · exact own_lt hs.enc.own k h
theorem xw_coder (b eb : Nat) : IsCoder xwM 65 64 (.pointer (some ⟨b, 0, none⟩)) (AtXw b eb) XWr.Ok where
  bit := by
    rintro w F s c u n ⟨v, hs, rfl⟩ ho hn
    have ho' : s.Ok 1000000004 := ⟨ho.P, ho.e.mono (by omega)⟩
    by_cases h : 0 ≤ c ∧ c < 64
    · rw [any_in _ _ _ _ h]
      obtain ⟨m, rfl⟩ := Int.eq_ofNat_of_zero_le h.1
      exact (xw_bit b eb m v u s w hs ho' (by omega)).mono fun e w' ⟨h1, h2⟩ => ⟨h1, moved_xw h2⟩
    · rw [any_out _ _ _ _ h]
      exact (xw_bit_out b eb v c u s w hs ho' (by omega)).mono fun e w' ⟨h1, h2⟩ => ⟨h1, moved_xw h2⟩
  flat := by
    rintro w F s u n ⟨v, hs, rfl⟩ ho hn
    exact (xw_flat b eb v u s w hs ⟨ho.P, ho.e.mono (by omega)⟩).mono fun e w' ⟨h1, h2⟩ => ⟨h1, moved_xw h2⟩
  okBit := by
    intro s c u n ho
    by_cases h : 0 ≤ c ∧ c < 64
    · rw [any_in _ _ _ _ h]
      have hc : c.toNat < 64 := by omega
      have := share_ok (p := s.P.getD c.toNat 0) ho.e.r0 (by have := ho.P.lo _ hc; omega) (by have := ho.P.hi _ hc; omega)
      exact ⟨ho.P.learn _ hc _, REnc.narrow_ok ho.e this.1 this.2 _⟩
    · rw [any_out _ _ _ _ h]
      have := half_ok ho.e.r0
      exact ⟨ho.P, REnc.narrow_ok ho.e this.1 this.2 _⟩
  okFlat := fun s u n ho => ⟨ho.P, REnc.narrow_ok ho.e (half_ok ho.e.r0).1 (half_ok ho.e.r0).2 _⟩
  keep := by
    rintro w w' F S s ⟨v, hs, rfl⟩ ho hn
    exact ⟨v, ⟨hs.blk.keep ho (hn _ (.inl rfl)), renc_far hs.enc ho (hn _ (.inr (.inl rfl))) (fun k hk => hn _ (.inr (.inr hk)))⟩, rfl⟩
  there := by
    rintro w F s k ⟨v, hs, rfl⟩ (rfl | rfl | h)
    · exact hs.blk.lt
    · exact hs.enc.blk.lt
    · exact own_lt hs.enc.own k h
theorem bys_lt {w : World} {g : Nat} {bs : List UInt8} (h : Bys w g bs) : g < w.heap.size := by obtain ⟨cs, hb, _⟩ := h; exact hb.lt
theorem rd_coder (b : Nat) : IsCoder rdM 132 133 (.pointer (some ⟨b, 0, none⟩)) (AtRd b) Rd.Ok where
  bit := by
    rintro w F s c u n ⟨db, g, cap, hs, rfl⟩ ho hn
    have ho' : s.Ok 1000000000 := ⟨ho.P, ho.d.mono hn⟩
    by_cases h : 0 ≤ c ∧ c < 64
    · rw [any_in _ _ _ _ h]
      obtain ⟨m, rfl⟩ := Int.eq_ofNat_of_zero_le h.1
      exact (rd_bit b db g cap m u s w hs ho' (by omega)).mono fun e w' ⟨h1, h2⟩ => ⟨h1, moved_rd h2⟩
    · rw [any_out _ _ _ _ h]
      exact (rd_bit_out b db g cap c u s w hs ho' (by omega)).mono fun e w' ⟨h1, h2⟩ => ⟨h1, moved_rd h2⟩
  flat := by
    rintro w F s u n ⟨db, g, cap, hs, rfl⟩ ho hn
    exact (rd_flat b db g cap u s w hs ⟨ho.P, ho.d.mono hn⟩).mono fun e w' ⟨h1, h2⟩ => ⟨h1, moved_rd h2⟩
  okBit := by
    intro s c u n ho
    by_cases h : 0 ≤ c ∧ c < 64
    · rw [any_in _ _ _ _ h]
      have hc : c.toNat < 64 := by omega
      have := share_ok (p := s.P.getD c.toNat 0) ho.d.r0 (by have := ho.P.lo _ hc; omega) (by have := ho.P.hi _ hc; omega)
      exact ⟨ho.P.learn _ hc _, (Dec.narrow_ok ho.d this.1 this.2).1⟩
    · rw [any_out _ _ _ _ h]
      have := half_ok ho.d.r0
      exact ⟨ho.P, (Dec.narrow_ok ho.d this.1 this.2).1⟩
  okFlat := fun s u n ho => ⟨ho.P, (Dec.narrow_ok ho.d (half_ok ho.d.r0).1 (half_ok ho.d.r0).2).1⟩
  keep := by
    rintro w w' F S s ⟨db, g, cap, hs, rfl⟩ ho hn
    exact ⟨db, g, cap, ⟨hs.blk.keep ho (hn _ (.inl rfl)), dec_far hs.dec ho (hn _ (.inr (.inl rfl))) (hn _ (.inr (.inr rfl)))⟩, rfl⟩
  there := by
    rintro w F s k ⟨db, g, cap, hs, rfl⟩ (rfl | rfl | rfl)
    · exact hs.blk.lt
    · exact hs.dec.blk.lt
    · exact bys_lt hs.dec.bys
theorem xr_coder (b db : Nat) : IsCoder xrM 65 64 (.pointer (some ⟨b, 0, none⟩)) (AtXr b db) XRd.Ok where
  bit := by
    rintro w F s c u n ⟨g, cap, hs, rfl⟩ ho hn
    have ho' : s.Ok 1000000000 := ⟨ho.P, ho.d.mono hn⟩
    by_cases h : 0 ≤ c ∧ c < 64
    · rw [any_in _ _ _ _ h]
      obtain ⟨m, rfl⟩ := Int.eq_ofNat_of_zero_le h.1
      exact (xr_bit b db g cap m u s w hs ho' (by omega)).mono fun e w' ⟨h1, h2⟩ => ⟨h1, moved_xr h2⟩
    · rw [any_out _ _ _ _ h]
      exact (xr_bit_out b db g cap c u s w hs ho' (by omega)).mono fun e w' ⟨h1, h2⟩ => ⟨h1, moved_xr h2⟩
  flat := by
    rintro w F s u n ⟨g, cap, hs, rfl⟩ ho hn
    exact (xr_flat b db g cap u s w hs ⟨ho.P, ho.d.mono hn⟩).mono fun e w' ⟨h1, h2⟩ => ⟨h1, moved_xr h2⟩
  okBit := by
    intro s c u n ho
    by_cases h : 0 ≤ c ∧ c < 64
    · rw [any_in _ _ _ _ h]
      have hc : c.toNat < 64 := by omega
      have := share_ok (p := s.P.getD c.toNat 0) ho.d.r0 (by have := ho.P.lo _ hc; omega) (by have := ho.P.hi _ hc; omega)
      exact ⟨ho.P.learn _ hc _, (Dec.rnarrow_ok ho.d this.1 this.2).1⟩
    · rw [any_out _ _ _ _ h]
      have := half_ok ho.d.r0
      exact ⟨ho.P, (Dec.rnarrow_ok ho.d this.1 this.2).1⟩
  okFlat := fun s u n ho => ⟨ho.P, (Dec.rnarrow_ok ho.d (half_ok ho.d.r0).1 (half_ok ho.d.r0).2).1⟩
  keep := by
    rintro w w' F S s ⟨g, cap, hs, rfl⟩ ho hn
    exact ⟨g, cap, ⟨hs.blk.keep ho (hn _ (.inl rfl)), rdec_far hs.dec ho (hn _ (.inr (.inl rfl))) (hn _ (.inr (.inr rfl)))⟩, rfl⟩
  there := by
    rintro w F s k ⟨g, cap, hs, rfl⟩ (rfl | rfl | rfl)
    · exact hs.blk.lt
    · exact hs.dec.blk.lt
    · exact bys_lt hs.dec.bys

/-- A value of the interface whose methods are these. -/
structure Speaks (T : TypeId) (p : Value) (fB fF : FuncId) : Prop where
  bit : ∀ w : World, (method 319 T p "Bit").run Tryz.prog w = .ok (fB, p) w
  flat : ∀ w : World, (method 319 T p "Flat").run Tryz.prog w = .ok (fF, p) w
  callBit : ∀ (x y z : Value) (w : World), (callFunc fB #[x, y, z]).run Tryz.prog w = .ok (.enter fB #[x, y, z]) w
  callFlat : ∀ (x y : Value) (w : World), (callFunc fF #[x, y]).run Tryz.prog w = .ok (.enter fF #[x, y]) w
theorem wr_speaks (b : Nat) : Speaks 25 (.pointer (some ⟨b, 0, none⟩)) 120 122 := ⟨fun _ => by kernel_rfl, fun _ => by kernel_rfl, fun _ _ _ _ => by kernel_rfl, fun _ _ _ => by kernel_rfl⟩
theorem rd_speaks (b : Nat) : Speaks 61 (.pointer (some ⟨b, 0, none⟩)) 132 133 := ⟨fun _ => by kernel_rfl, fun _ => by kernel_rfl, fun _ _ _ _ => by kernel_rfl, fun _ _ _ => by kernel_rfl⟩
end Go.Proofs.YtkkgpdejmcpcpaaGreatDoor

