/- The range coders as objects that own blocks; two of them beside each other. -/
import Derived.Test.YtgdhbmpdicdbpaaDoorRefEncMore
import Derived.Test.YtgdhbmpdicdbpaaDoorRacFacts
namespace Go.Proofs.YtgdhbmpdicdbpaaDoor
open Go.RowKit

theorem Only.of_below_o {w w' : World} (h : Below w.heap.size w w') : Only (fun k => w.heap.size ≤ k) w w' := ⟨h.os, h.tape, h.output, h.size, fun k hk _ => h.block k hk⟩
/-- An object: a state s, the blocks F that it owns. -/
structure IsObj {σ : Type} (At : World → (Nat → Prop) → σ → Prop) : Prop where
  keep : ∀ (w w' : World) (F S : Nat → Prop) (s : σ), At w F s → Only S w w' → (∀ k, F k → ¬ S k) → At w' F s
  there : ∀ (w : World) (F : Nat → Prop) (s : σ) (k : Nat), At w F s → F k → k < w.heap.size
def MovedO {σ : Type} (At : World → (Nat → Prop) → σ → Prop) (w : World) (F : Nat → Prop) (s : σ) (w' : World) : Prop :=
  ∃ F', At w' F' s ∧ Only F w w' ∧ ∀ k, F' k → F k ∨ w.heap.size ≤ k
section
variable {σ τ : Type} {A1 : World → (Nat → Prop) → σ → Prop} {A2 : World → (Nat → Prop) → τ → Prop}
structure PairAt (B : Nat) (w0 : World) (A1 : World → (Nat → Prop) → σ → Prop) (A2 : World → (Nat → Prop) → τ → Prop) (F G : Nat → Prop) (s : σ) (t : τ) (wr : World) : Prop where
  l : A1 wr F s
  r : A2 wr G t
  dis : ∀ k, F k → ¬ G k
  lB : ∀ k, F k → B ≤ k
  rB : ∀ k, G k → B ≤ k
  bel : Below B w0 wr
  size : B ≤ wr.heap.size
def Pair (B : Nat) (w0 : World) (A1 : World → (Nat → Prop) → σ → Prop) (A2 : World → (Nat → Prop) → τ → Prop) (s : σ) (t : τ) (wr : World) : Prop := ∃ F G, PairAt B w0 A1 A2 F G s t wr
variable {B : Nat} {w0 wr w' : World} {F G : Nat → Prop} {s s' : σ} {t t' : τ}
theorem PairAt.left (H2 : IsObj A2) (T : PairAt B w0 A1 A2 F G s t wr) (hm : MovedO A1 wr F s' w') : Pair B w0 A1 A2 s' t w' := by
  obtain ⟨F', a, o, f⟩ := hm
  refine ⟨F', G, a, H2.keep _ _ G F t T.r o (fun k hk hf => T.dis k hf hk), fun k hk hg => ?_, fun k hk => ?_, T.rB, T.bel.trans ?_, Nat.le_trans T.size o.size⟩
  · rcases f k hk with h | h
    · exact T.dis k h hg
    · have := H2.there _ _ _ _ T.r hg
      omega
  · have := T.size
    rcases f k hk with h | h
    · exact T.lB k h
    · omega
  · exact ⟨o.os, o.tape, o.output, o.size, fun k hk => o.block k (by have := T.size; omega) (fun h => by have := T.lB k h; omega)⟩
theorem PairAt.right (H1 : IsObj A1) (T : PairAt B w0 A1 A2 F G s t wr) (hm : MovedO A2 wr G t' w') : Pair B w0 A1 A2 s t' w' := by
  obtain ⟨G', a, o, f⟩ := hm
  refine ⟨F, G', H1.keep _ _ F G s T.l o (fun k hk hg => T.dis k hk hg), a, fun k hk hg => ?_, T.lB, fun k hk => ?_, T.bel.trans ?_, Nat.le_trans T.size o.size⟩
  · rcases f k hg with h | h
    · exact T.dis k hk h
    · have := H1.there _ _ _ _ T.l hk
      omega
  · have := T.size
    rcases f k hk with h | h
    · exact T.rB k h
    · omega
  · exact ⟨o.os, o.tape, o.output, o.size, fun k hk => o.block k (by have := T.size; omega) (fun h => by have := T.rB k h; omega)⟩
theorem PairAt.keep {S : Nat → Prop} (H1 : IsObj A1) (H2 : IsObj A2) (T : PairAt B w0 A1 A2 F G s t wr) (o : Only S wr w') (hF : ∀ k, F k → ¬ S k) (hG : ∀ k, G k → ¬ S k) (hB : ∀ k, k < B → ¬ S k) : PairAt B w0 A1 A2 F G s t w' :=
  ⟨H1.keep _ _ _ _ _ T.l o hF, H2.keep _ _ _ _ _ T.r o hG, T.dis, T.lB, T.rB, T.bel.trans ⟨o.os, o.tape, o.output, o.size, fun k hk => o.block k (by have := T.size; omega) (hB k hk)⟩, Nat.le_trans T.size o.size⟩
theorem PairAt.read (H1 : IsObj A1) (H2 : IsObj A2) (T : PairAt B w0 A1 A2 F G s t wr) (o : Only (fun _ => False) wr w') : PairAt B w0 A1 A2 F G s t w' :=
  T.keep H1 H2 o (fun _ _ h => h) (fun _ _ h => h) (fun _ _ h => h)
theorem PairAt.below (H1 : IsObj A1) (H2 : IsObj A2) (T : PairAt B w0 A1 A2 F G s t wr) (o : Below wr.heap.size wr w') : PairAt B w0 A1 A2 F G s t w' :=
  T.read H1 H2 ⟨o.os, o.tape, o.output, o.size, fun k hk _ => o.block k hk⟩
/-- Two, the second made after the first. -/
theorem PairAt.mk2 {wa : World} (H1 : IsObj A1) (h1 : A1 wa F s) (f1 : ∀ k, F k → B ≤ k) (b1 : Below B w0 wa) (hB : B ≤ wa.heap.size) (h2 : A2 wr G t) (f2 : ∀ k, G k → wa.heap.size ≤ k) (b2 : Below wa.heap.size wa wr) : PairAt B w0 A1 A2 F G s t wr := by
  have hth := fun k hk => H1.there _ F _ k h1 hk
  exact ⟨H1.keep _ _ F (fun k => wa.heap.size ≤ k) _ h1 (Only.of_below_o b2) (fun k hk => by have := hth k hk; omega), h2, fun k hk hg => by have := hth k hk; have := f2 k hg; omega, f1, fun k hk => by have := f2 k hk; omega, b1.trans (b2.mono hB), by have := b2.size; omega⟩
end

/-! ### The program's -/
def EncO (b : Nat) (w : World) (F : Nat → Prop) (e : Enc) : Prop := ∃ v, EncAt w b v e ∧ F = Fp b v
def DecO (b : Nat) (w : World) (F : Nat → Prop) (d : Dec) : Prop := ∃ g c, DecAt w b g c d ∧ F = fun k => k = b ∨ k = g
theorem own_far_o {w w' : World} {base n : Nat} {t : TypeId} {v : Value} {xs : List Value} {S : Nat → Prop} (h : w.ownsRow base t 1 v n xs) (ho : Only S w w') (hv : ∀ k, v.ownBlock = some k → ¬ S k) : w'.ownsRow base t 1 v n xs := by
  refine ⟨h.1, ?_⟩
  rcases h.2 with hn | ⟨g, cap, cur, hv', hb, hg, hr⟩
  · exact .inl hn
  · refine .inr ⟨g, cap, cur, hv', hb, ?_, hr⟩
    have hlt := (Array.getElem?_eq_some_iff.1 hg).1
    rw [ho.block g hlt (hv g (by rw [hv']; rfl))]
    exact hg
theorem enc_obj (b : Nat) : IsObj (EncO b) where
  keep := by
    rintro w w' F S s ⟨v, h, rfl⟩ ho hd
    exact ⟨v, ⟨h.blk.keep ho (hd b (.inl rfl)), own_far_o h.own ho (fun k hk => hd k (.inr hk)), h.len⟩, rfl⟩
  there := by
    rintro w F s k ⟨v, h, rfl⟩ (rfl | hk)
    · exact h.blk.lt
    · exact (h.own.lt k hk).2
theorem dec_obj (b : Nat) : IsObj (DecO b) where
  keep := by
    rintro w w' F S s ⟨g, c, h, rfl⟩ ho hd
    obtain ⟨cs, hb, hr⟩ := h.bys
    exact ⟨g, c, ⟨h.blk.keep ho (hd b (.inl rfl)), ⟨cs, hb.keep ho (hd g (.inr rfl)), hr⟩, h.len⟩, rfl⟩
  there := by
    rintro w F s k ⟨g, c, h, rfl⟩ (rfl | rfl)
    · exact h.blk.lt
    · obtain ⟨cs, hb, hr⟩ := h.bys
      exact hb.lt
theorem enc_moved {b : Nat} {v : Value} {e : Enc} {w w' : World} (h : EncMoved w b v e w') : MovedO (EncO b) w (Fp b v) e w' := by
  obtain ⟨v', h1, h2, h3⟩ := h
  refine ⟨Fp b v', ⟨v', h1, rfl⟩, h2, ?_⟩
  rintro k (h | h)
  · exact .inl (.inl h)
  · rcases h3 k h with h | h
    · exact .inl (.inr h)
    · exact .inr h
theorem enc_flat_o (b : Nat) (u : Bool) (e : Enc) (F : Nat → Prop) (w : World) (he : EncO b w F e) (ho : e.Ok 1000000000) :
    Calls Tryd.prog 12 #[.pointer (some ⟨b, 0, none⟩), .bool u] w fun y w' => y = .returned (.tuple #[]) ∧ MovedO (EncO b) w F (e.narrow (e.r / 2) u) w' := by
  obtain ⟨v, h, rfl⟩ := he
  refine (enc_flat b v u e w h ho).mono ?_
  rintro y w' ⟨rfl, hm⟩
  exact ⟨rfl, enc_moved hm⟩
theorem enc_code_o (b p : Nat) (u : Bool) (e : Enc) (F : Nat → Prop) (w : World) (he : EncO b w F e) (ho : e.Ok 1000000000) (h1 : 1 ≤ p) (h2 : p ≤ 2047) :
    Calls Tryd.prog 15 #[.pointer (some ⟨b, 0, none⟩), .int .i64 p, .bool u] w fun y w' => y = .returned .nilIface ∧ MovedO (EncO b) w F (e.narrow (e.r / 2048 * p) u) w' := by
  obtain ⟨v, h, rfl⟩ := he
  refine (enc_code b p v u e w h ho h1 h2).mono ?_
  rintro y w' ⟨rfl, hm⟩
  exact ⟨rfl, enc_moved hm⟩
theorem dec_flat_o (b : Nat) (d : Dec) (F : Nat → Prop) (w : World) (hd : DecO b w F d) (ho : d.Ok 1000000000) :
    Calls Tryd.prog 26 #[.pointer (some ⟨b, 0, none⟩)] w fun y w' => y = .returned (.bool (d.bit (d.r / 2))) ∧ MovedO (DecO b) w F (d.narrow (d.r / 2)) w' := by
  obtain ⟨g, c, h, rfl⟩ := hd
  refine (dec_flat b g c d w h ho).mono ?_
  rintro y w' ⟨rfl, h1, h2⟩
  exact ⟨rfl, _, ⟨g, c, h1, rfl⟩, h2.mono (fun k _ hk => .inl hk), fun k hk => .inl hk⟩
theorem dec_code_o (b p : Nat) (d : Dec) (F : Nat → Prop) (w : World) (hd : DecO b w F d) (ho : d.Ok 1000000000) (h1 : 1 ≤ p) (h2 : p ≤ 2047) :
    Calls Tryd.prog 28 #[.pointer (some ⟨b, 0, none⟩), .int .i64 p] w fun y w' => y = .returned (.tuple #[.bool (d.bit (d.r / 2048 * p)), .nilIface]) ∧ MovedO (DecO b) w F (d.narrow (d.r / 2048 * p)) w' := by
  obtain ⟨g, c, h, rfl⟩ := hd
  refine (dec_code b g c p d w h ho h1 h2).mono ?_
  rintro y w' ⟨rfl, h1, h2⟩
  exact ⟨rfl, _, ⟨g, c, h1, rfl⟩, h2.mono (fun k _ hk => .inl hk), fun k hk => .inl hk⟩
theorem dec_over_o (b : Nat) (d : Dec) (F : Nat → Prop) (w : World) (hd : DecO b w F d) (hat : d.at_ ≤ 1000000000) :
    Calls Tryd.prog 30 #[.pointer (some ⟨b, 0, none⟩)] w fun e w' => e = .returned (.int .i64 (d.at_ - d.bs.length : Nat)) ∧ ∃ m, w' = w.drewN m := by
  obtain ⟨g, c, h, rfl⟩ := hd
  exact dec_over b g c d w h hat
theorem enc_end_o (b : Nat) (e : Enc) (F : Nat → Prop) (w : World) (he : EncO b w F e) (ho : e.Ok 1000000000) :
    Calls Tryd.prog 20 #[.pointer (some ⟨b, 0, none⟩)] w fun y w' => ∃ g cap, y = .returned (.slice (some ⟨g, 0, none⟩) e.bytes.length cap) ∧ w'.ownsRow w.heap.size 5 1 (.slice (some ⟨g, 0, none⟩) e.bytes.length cap) e.bytes.length (e.bytes.map byteV) ∧ Below w.heap.size w w' := by
  obtain ⟨v, h, rfl⟩ := he
  exact enc_end b v e w h (by have := ho.len; omega) ho.low
theorem enc_len (b : Nat) (e : Enc) (F : Nat → Prop) (w : World) (he : EncO b w F e) (ho : e.Ok 1000000000) :
    Calls Tryd.prog 17 #[.pointer (some ⟨b, 0, none⟩)] w fun y w' => y = .returned (.int .i64 (e.out.length + 4 : Nat)) ∧ ∃ m, w' = w.drewN m := by
  obtain ⟨v, h, rfl⟩ := he
  have h0 := h.blk.cell 0
  simp [encCells] at h0
  have hl := ho.len
  rcases enc_form h with ⟨rfl, hn⟩ | ⟨g, cap, rfl⟩
  · rw [hn]
    clear h ho hl hn
    go_enter Tryd.func17, Tryd.ntmps17
    go_wp2
    go_ret
    exact ⟨rfl, 0, rfl⟩
  · have q : IntKind.i64.wrap ((e.out.length : Int) + 4) = (e.out.length : Int) + 4 := IntWalk.i64_in _ (by omega)
    clear h ho
    go_enter Tryd.func17, Tryd.ntmps17
    go_wp2
    go_ret
    exact ⟨by simp; omega, 0, rfl⟩
def NewO {σ : Type} (At : Nat → World → (Nat → Prop) → σ → Prop) (w : World) (s : σ) (e : Ending) (w' : World) : Prop :=
  ∃ b F, e = .returned (.pointer (some ⟨b, 0, none⟩)) ∧ At b w' F s ∧ (∀ k, F k → w.heap.size ≤ k) ∧ Below w.heap.size w w'
theorem new_enc_o (w : World) : Calls Tryd.prog 10 #[] w (NewO EncO w Enc.new) := by
  refine (new_encoder w).mono ?_
  rintro e w' ⟨rfl, h1, h2⟩
  exact ⟨_, _, rfl, ⟨_, h1, rfl⟩, by rintro k (rfl | h); exact Nat.le_refl _; simp [Value.ownBlock] at h, h2⟩
theorem new_dec_o (x : Value) (bs : List UInt8) (w : World) (hx : From w 1 x bs.length (bs.map byteV)) (hl : bs.length ≤ 1000000000) :
    Calls Tryd.prog 24 #[x] w (NewO DecO w (Dec.new bs)) := by
  refine (new_decoder x bs w hx hl).mono ?_
  rintro e w' ⟨b, g, c, rfl, h1, h2, h3, h4⟩
  exact ⟨_, _, rfl, ⟨g, c, h1, rfl⟩, by rintro k (rfl | rfl) <;> assumption, h4⟩
theorem enc_new_ok : Enc.new.Ok 0 := ⟨by show 16777216 ≤ 4294967295; omega, by show 4294967295 ≤ 4294967295; omega, by show 0 ≤ 4294967295; omega, by show 0 ≤ 0; omega⟩
theorem dec_new_ok (bs : List UInt8) : (Dec.new bs).Ok 4 := ⟨by show 16777216 ≤ 4294967295; omega, by show 4294967295 ≤ 4294967295; omega, by have := pre_lt bs 4 (by omega); show pre bs 4 ≤ 4294967295; omega, by show 4 ≤ 4; omega⟩
end Go.Proofs.YtgdhbmpdicdbpaaDoor
