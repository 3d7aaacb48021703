/- asks, wants, flag; what one operation does. -/
import Derived.Test.YtgdhbmpdicdbpaaPart
import Derived.Test.YtgdhbmpdicdbpaaRacEq
namespace Go.Proofs.Ytgdhbmpdicdbpaa
open Go.RowKit

section
variable {σ : Type} {M : Mach σ} {fB fF : FuncId} {At : World → (Nat → Prop) → σ → Prop} {Ok : σ → Nat → Prop} {me : Value}
theorem IsCoder.okBitN (H : IsCoder M fB fF me At Ok) (s : σ) (c : Nat) (hc : c < 64) (u : Bool) (n : Nat) (h : Ok s n) : Ok (M.bit s c u).2 (n + 3) := by
  have := H.okBit s (c : Int) u n h
  rwa [Mach.anyBit_nat _ _ _ _ hc] at this
theorem IsCoder.okOnes (H : IsCoder M fB fF me At Ok) {f : Nat → Nat} (hf : ∀ n, f n < 64) (v : Int) : ∀ (k n : Nat) (s : σ) (lim : Nat), Ok s lim → ∃ m, m ≤ lim + 3 * k ∧ Ok (M.ones f v k n s).2 m := by
  intro k
  induction k with
  | zero => intro n s lim h; exact ⟨lim, by omega, h⟩
  | succ k ih =>
    intro n s lim h
    have hb := H.okBitN s (f n) (hf n) (decide ((n : Int) < v)) lim h
    rw [Mach.ones]
    split
    · obtain ⟨m, h1, h2⟩ := ih (n + 1) _ _ hb
      exact ⟨m, by omega, h2⟩
    · exact ⟨lim + 3, by omega, hb⟩
theorem IsCoder.okKind (H : IsCoder M fB fF me At Ok) (v : Int) (s : σ) (lim : Nat) (h : Ok s lim) : ∃ m, m ≤ lim + 60 ∧ Ok (M.kind v s).2 m := by
  have e : M.ones (fun n => if n < 64 then n else 0) v 3 0 s = M.ones (fun n => n) v 3 0 s := rfl
  obtain ⟨m, h1, h2⟩ := H.okOnes (f := fun n => if n < 64 then n else 0) (fun n => by split <;> omega) v 3 0 s lim h
  rw [e] at h2
  exact ⟨m, by omega, h2⟩
theorem IsCoder.okMode (H : IsCoder M fB fF me At Ok) (v : Int) (s : σ) (lim : Nat) (h : Ok s lim) : ∃ m, m ≤ lim + 60 ∧ Ok (M.mode v s).2 m :=
  ⟨lim + 3 + 3, by omega, H.okBitN _ _ (by split <;> omega) _ _ (H.okBitN _ _ (by omega) _ _ h)⟩
theorem IsCoder.okPart (H : IsCoder M fB fF me At Ok) (v : Int) (s : σ) (lim : Nat) (h : Ok s lim) : ∃ m, m ≤ lim + 60 ∧ Ok (M.part v s).2 m := by
  have h1 := H.okBitN s 6 (by omega) (decide (cut v (-15) 15 ≠ 0)) lim h
  rw [part_def]
  split
  · have h2 := H.okFlat _ (decide (cut v (-15) 15 < 0)) _ h1
    obtain ⟨m, h3, h4⟩ := H.okOnes partCtx_lt (max (cut v (-15) 15) (-(cut v (-15) 15)) - 1) 14 0 _ _ h2
    exact ⟨m, by omega, h4⟩
  · exact ⟨_, by omega, h1⟩

/-- An operation of the law. -/
structure Oper13 where
  kind : Int
  c : Int
  v : Int
  b : Bool
def flagI (b : Bool) : Int := if b then 1 else 0
def Mach.asks (M : Mach σ) (o : Oper13) (k : Int) (s : σ) : Int × σ :=
  if o.kind = 0 then (flagI (M.anyBit s o.c o.b).1, (M.anyBit s o.c o.b).2)
  else if o.kind = 1 then (flagI (M.flat s o.b).1, (M.flat s o.b).2)
  else if o.kind = 2 then M.kind k s
  else if o.kind = 3 then M.mode o.v s
  else M.part o.v s
theorem IsCoder.okAsks (H : IsCoder M fB fF me At Ok) (o : Oper13) (k : Int) (s : σ) (lim : Nat) (h : Ok s lim) : ∃ m, m ≤ lim + 60 ∧ Ok (M.asks o k s).2 m := by
  unfold Mach.asks
  split
  · exact ⟨_, by omega, H.okBit s o.c o.b lim h⟩
  · split
    · exact ⟨_, by omega, H.okFlat s o.b lim h⟩
    · split
      · exact H.okKind k s lim h
      · split
        · exact H.okMode o.v s lim h
        · exact H.okPart o.v s lim h
def operV (o : Oper13) : Value := .agg #[.int .i64 o.kind, .int .i64 o.c, .int .i64 o.v, .bool o.b]

theorem flag_any (u : Bool) (w : World) : Calls Try.prog 19 #[.bool u] w fun e w' => e = .returned (.int .i64 (flagI u)) ∧ w = w' := by
  cases u <;>
  · go_enter Try.func19, Try.ntmps19
    go_wp2
    go_ret
    exact ⟨rfl, rfl⟩

set_option maxRecDepth 100000 in
set_option maxHeartbeats 800000 in
theorem asks_any (b : Nat) (T : TypeId) (H : IsCoder M fB fF (.pointer (some ⟨b, 0, none⟩)) At Ok) (Sp : Speaks T (.pointer (some ⟨b, 0, none⟩)) fB fF) (o : Oper13) (s : σ) (w : World) (F : Nat → Prop) (lim : Nat) (hs : At w F s) (ho : Ok s lim) (hl : lim + 100 ≤ 1000000000) :
    Calls Try.prog 12 #[.iface T (.pointer (some ⟨b, 0, none⟩)), .agg #[.int .i64 o.kind, .int .i64 o.c, .int .i64 o.v, .bool o.b]] w (Coded At w F (M.asks o (cut o.v 0 3) s)) := by
  obtain ⟨kd, c, v, u⟩ := o
  have hk : At (w.alloc (.cells #[.int .i64 kd, .int .i64 c, .int .i64 v, .bool u] 32)) F s := H.keep _ _ F (fun _ => False) s hs ((Only.refl _ w).alloc _) (fun _ _ h => h)
  have hth := fun k hk => H.there w F s k hs hk
  have S := hid (And.intro hk (And.intro ho hth))
  clear hs ho hk hth
  have fin : ∀ (x : Int × σ) (e : Ending) (w' : World), Coded At (w.alloc (.cells #[.int .i64 kd, .int .i64 c, .int .i64 v, .bool u] 32)) F x e w' → Coded At w F x e w' := by
    rintro x e w' ⟨h1, F', h2, h3, h4⟩
    refine ⟨h1, F', h2, ((Only.refl F w).alloc _).trans h3, fun k hk => ?_⟩
    rcases h4 k hk with h | h
    · exact .inl h
    · simp at h; exact .inr (by omega)
  have FIN := hid fin
  clear fin
  have hm := Sp.bit
  have hcb := Sp.callBit
  have hm2 := Sp.flat
  have hcb2 := Sp.callFlat
  by_cases k0 : kd = 0
  · subst k0
    go_enter Try.func12, Try.ntmps12
    go_wp2_with fail
    refine (H.bit _ F s c u lim S.out.1 S.out.2.1 (by omega)).mono ?_
    rintro e w' ⟨rfl, h⟩
    have X := hid h
    clear h
    go_wp2_with (go_at_call 19; refine (flag_any _ _).mono ?_; rintro e w'' ⟨rfl, rfl⟩)
    go_ret
    exact FIN.out _ _ _ ⟨rfl, X.out⟩
  by_cases k1 : kd = 1
  · subst k1
    clear k0
    go_enter Try.func12, Try.ntmps12
    go_wp2_with fail
    refine (H.flat _ F s u lim S.out.1 S.out.2.1 (by omega)).mono ?_
    rintro e w' ⟨rfl, h⟩
    have X := hid h
    clear h
    go_wp2_with (go_at_call 19; refine (flag_any _ _).mono ?_; rintro e w'' ⟨rfl, rfl⟩)
    go_ret
    exact FIN.out _ _ _ ⟨rfl, X.out⟩
  by_cases k2 : kd = 2
  · subst k2
    clear k0 k1
    go_enter Try.func12, Try.ntmps12
    go_wp2_with fail
    refine (kind_any b T H Sp v s _ F lim S.out.1 S.out.2.1 hl).mono ?_
    rintro e w' ⟨rfl, h⟩
    have X := hid h
    clear h
    go_wp2_with fail
    go_ret
    exact FIN.out _ _ _ ⟨rfl, X.out⟩
  by_cases k3 : kd = 3
  · subst k3
    clear k0 k1 k2
    go_enter Try.func12, Try.ntmps12
    go_wp2_with fail
    refine (mode_any b T H Sp v s _ F lim S.out.1 S.out.2.1 hl).mono ?_
    rintro e w' ⟨rfl, h⟩
    have X := hid h
    clear h
    go_wp2_with fail
    go_ret
    exact FIN.out _ _ _ ⟨rfl, X.out⟩
  · have e0 : (kd == 0) = false := by simpa using k0
    have e1 : (kd == 1) = false := by simpa using k1
    have e2 : (kd == 2) = false := by simpa using k2
    have e3 : (kd == 3) = false := by simpa using k3
    have he : M.asks ⟨kd, c, v, u⟩ (cut v 0 3) s = M.part v s := by unfold Mach.asks; rw [if_neg k0, if_neg k1, if_neg k2, if_neg k3]
    have HE := hid he
    clear k0 k1 k2 k3 he
    go_enter Try.func12, Try.ntmps12
    go_wp2_with fail
    refine (part_any b T H Sp v s _ F lim S.out.1 S.out.2.1 hl).mono ?_
    rintro e w' ⟨rfl, h⟩
    have X := hid h
    clear h
    go_wp2_with fail
    go_ret
    rw [HE.out]
    exact FIN.out _ _ _ ⟨rfl, X.out⟩

set_option maxRecDepth 100000 in
set_option maxHeartbeats 800000 in
theorem wants_any (b : Nat) (H : IsCoder M 32 33 (.pointer (some ⟨b, 0, none⟩)) At Ok) (o : Oper13) (s : σ) (w : World) (F : Nat → Prop) (lim : Nat) (hs : At w F s) (ho : Ok s lim) (hl : lim + 100 ≤ 1000000000) :
    Calls Try.prog 13 #[.pointer (some ⟨b, 0, none⟩), .agg #[.int .i64 o.kind, .int .i64 o.c, .int .i64 o.v, .bool o.b]] w (Coded At w F (M.asks o o.v s)) := by
  obtain ⟨kd, c, v, u⟩ := o
  have hk : At (w.alloc (.cells #[.int .i64 kd, .int .i64 c, .int .i64 v, .bool u] 32)) F s := H.keep _ _ F (fun _ => False) s hs ((Only.refl _ w).alloc _) (fun _ _ h => h)
  have hth := fun k hk => H.there w F s k hs hk
  have S := hid (And.intro hk (And.intro ho hth))
  clear hs ho hk hth
  have fin : ∀ (x : Int × σ) (e : Ending) (w' : World), Coded At (w.alloc (.cells #[.int .i64 kd, .int .i64 c, .int .i64 v, .bool u] 32)) F x e w' → Coded At w F x e w' := by
    rintro x e w' ⟨h1, F', h2, h3, h4⟩
    refine ⟨h1, F', h2, ((Only.refl F w).alloc _).trans h3, fun k hk => ?_⟩
    rcases h4 k hk with h | h
    · exact .inl h
    · simp at h; exact .inr (by omega)
  have FIN := hid fin
  clear fin
  by_cases k0 : kd = 0
  · subst k0
    go_enter Try.func13, Try.ntmps13
    go_wp2_with fail
    refine (H.bit _ F s c u lim S.out.1 S.out.2.1 (by omega)).mono ?_
    rintro e w' ⟨rfl, h⟩
    have X := hid h
    clear h
    go_wp2_with (go_at_call 19; refine (flag_any _ _).mono ?_; rintro e w'' ⟨rfl, rfl⟩)
    go_ret
    exact FIN.out _ _ _ ⟨rfl, X.out⟩
  by_cases k1 : kd = 1
  · subst k1
    clear k0
    go_enter Try.func13, Try.ntmps13
    go_wp2_with fail
    refine (H.flat _ F s u lim S.out.1 S.out.2.1 (by omega)).mono ?_
    rintro e w' ⟨rfl, h⟩
    have X := hid h
    clear h
    go_wp2_with (go_at_call 19; refine (flag_any _ _).mono ?_; rintro e w'' ⟨rfl, rfl⟩)
    go_ret
    exact FIN.out _ _ _ ⟨rfl, X.out⟩
  by_cases k2 : kd = 2
  · subst k2
    clear k0 k1
    go_enter Try.func13, Try.ntmps13
    go_wp2_with fail
    refine (rkind_any b H v s _ F lim S.out.1 S.out.2.1 hl).mono ?_
    rintro e w' ⟨rfl, h⟩
    have X := hid h
    clear h
    go_wp2_with fail
    go_ret
    exact FIN.out _ _ _ ⟨rfl, X.out⟩
  by_cases k3 : kd = 3
  · subst k3
    clear k0 k1 k2
    go_enter Try.func13, Try.ntmps13
    go_wp2_with fail
    refine (rmode_any b H v s _ F lim S.out.1 S.out.2.1 hl).mono ?_
    rintro e w' ⟨rfl, h⟩
    have X := hid h
    clear h
    go_wp2_with fail
    go_ret
    exact FIN.out _ _ _ ⟨rfl, X.out⟩
  · have e0 : (kd == 0) = false := by simpa using k0
    have e1 : (kd == 1) = false := by simpa using k1
    have e2 : (kd == 2) = false := by simpa using k2
    have e3 : (kd == 3) = false := by simpa using k3
    have he : M.asks ⟨kd, c, v, u⟩ v s = M.part v s := by unfold Mach.asks; rw [if_neg k0, if_neg k1, if_neg k2, if_neg k3]
    have HE := hid he
    clear k0 k1 k2 k3 he
    go_enter Try.func13, Try.ntmps13
    go_wp2_with fail
    refine (rpart_any b H v s _ F lim S.out.1 S.out.2.1 hl).mono ?_
    rintro e w' ⟨rfl, h⟩
    have X := hid h
    clear h
    go_wp2_with fail
    go_ret
    rw [HE.out]
    exact FIN.out _ _ _ ⟨rfl, X.out⟩
end
end Go.Proofs.Ytgdhbmpdicdbpaa
