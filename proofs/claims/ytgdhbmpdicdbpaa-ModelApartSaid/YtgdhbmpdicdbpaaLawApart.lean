/- ModelApart: the walk. -/
import Derived.Test.YtgdhbmpdicdbpaaLawReads
namespace Go.Proofs.Ytgdhbmpdicdbpaa
open Go.RowKit

theorem learnAt_other (P : List Nat) (c d : Nat) (u : Bool) (h : c ≠ d) : (learnAt P c u).getD d 0 = P.getD d 0 := by
  unfold learnAt
  simp only [List.getD, List.getElem?_set_ne h]
theorem learnAt_self (P : List Nat) (c : Nat) (u : Bool) (h : c < P.length) : (learnAt P c u).getD c 0 = learnP (P.getD c 0) u := by
  unfold learnAt
  simp [List.getD, List.getElem?_set_self h]
theorem asks_apart (s : Wr) (o : Oper13) (m : Nat) (h : o.kind = 1 ∨ (o.kind = 0 ∧ o.c ≠ m)) : (wrM.asks o (cut o.v 0 3) s).2.P.getD m 0 = s.P.getD m 0 := by
  unfold Mach.asks
  rcases h with h | ⟨h, hc⟩
  · rw [if_neg (by omega), if_pos h]
    rfl
  · rw [if_pos h]
    unfold Mach.anyBit
    split
    · exact learnAt_other _ _ _ _ (by omega)
    · rfl
theorem asks_self (s t : Wr) (o : Oper13) (m : Nat) (hm : m < 64) (h : o.kind = 0) (hc : o.c = m) (hs : s.P.length = 64) (ht : t.P.length = 64) (he : s.P.getD m 0 = t.P.getD m 0) :
    (wrM.asks o (cut o.v 0 3) s).2.P.getD m 0 = (wrM.asks o (cut o.v 0 3) t).2.P.getD m 0 := by
  unfold Mach.asks
  rw [if_pos h, if_pos h]
  unfold Mach.anyBit
  rw [if_pos (by omega), if_pos (by omega)]
  have e : o.c.toNat = m := by omega
  rw [e]
  show (learnAt s.P m o.b).getD m 0 = (learnAt t.P m o.b).getD m 0
  rw [learnAt_self _ _ _ (by omega), learnAt_self _ _ _ (by omega), he]
/-- Two writers, one of which is told context m alone. -/
structure ApartAt (m : Nat) (s t : Wr) (i : Nat) : Prop where
  same : s.P.getD m 0 = t.P.getD m 0
  ok1 : ∃ n, n ≤ 60 * i ∧ s.Ok n
  ok2 : ∃ n, n ≤ 60 * i ∧ t.Ok n
theorem ApartAt.chance {m : Nat} {s t : Wr} {i : Nat} (h : ApartAt m s t i) : chanceOf t.P m = chanceOf s.P m := by
  unfold chanceOf
  have := h.same
  split
  · simp only [Int.toNat_natCast]; rw [this]
  · rfl
theorem ApartAt.len1 {m : Nat} {s t : Wr} {i : Nat} (h : ApartAt m s t i) : s.P.length = 64 := by obtain ⟨n, _, ho⟩ := h.ok1; exact ho.P.len
theorem ApartAt.len2 {m : Nat} {s t : Wr} {i : Nat} (h : ApartAt m s t i) : t.P.length = 64 := by obtain ⟨n, _, ho⟩ := h.ok2; exact ho.P.len
theorem ApartAt.next {m : Nat} {s t : Wr} {i : Nat} (h : ApartAt m s t i) : ApartAt m s t (i + 1) := by
  obtain ⟨h1, ⟨n, hn, h2⟩, ⟨k, hk, h3⟩⟩ := h
  exact ⟨h1, ⟨n, by omega, h2⟩, ⟨k, by omega, h3⟩⟩
theorem ApartAt.one {m : Nat} {s t : Wr} {i : Nat} (h : ApartAt m s t i) (o : Oper13) (hk : o.kind = 1 ∨ (o.kind = 0 ∧ o.c ≠ m)) : ApartAt m (wrM.asks o (cut o.v 0 3) s).2 t (i + 1) := by
  obtain ⟨h1, ⟨n, hn, h2⟩, ⟨k, hk', h3⟩⟩ := h
  obtain ⟨n', hn', k1⟩ := (wr_coder 0).okAsks o (cut o.v 0 3) s n h2
  exact ⟨by rw [asks_apart s o m hk]; exact h1, ⟨n', by omega, k1⟩, ⟨k, by omega, h3⟩⟩
theorem ApartAt.both {m : Nat} {s t : Wr} {i : Nat} (h : ApartAt m s t i) (o : Oper13) (hm : m < 64) (hk : o.kind = 0) (hc : o.c = m) : ApartAt m (wrM.asks o (cut o.v 0 3) s).2 (wrM.asks o (cut o.v 0 3) t).2 (i + 1) := by
  have l1 := h.len1
  have l2 := h.len2
  obtain ⟨h1, ⟨n, hn, h2⟩, ⟨k, hk', h3⟩⟩ := h
  obtain ⟨n', hn', k1⟩ := (wr_coder 0).okAsks o (cut o.v 0 3) s n h2
  obtain ⟨m', hm', k2⟩ := (wr_coder 0).okAsks o (cut o.v 0 3) t k h3
  exact ⟨asks_self s t o m hm hk hc l1 l2 h1, ⟨n', by omega, k1⟩, ⟨m', by omega, k2⟩⟩

set_option maxRecDepth 100000 in
set_option maxHeartbeats 4000000 in
theorem apart_walk (y : Value) (l : List Oper13) (ctx : Int) (w : World) (hy : OpsAt w y l) (_ : l.length ≤ maxLen) (_ : (Lit.int .i64 ctx).wf = true) :
    Calls Try.prog 5 #[y, .int .i64 ctx] w fun e w' => e = .returned (.bool true) ∧ Below w.heap.size w w' := by
  obtain ⟨A2, c2, rfl, hy2⟩ := hy
  have Y := hid hy2
  clear hy2
  have r0 : -64 < ctx.tmod 64 ∧ ctx.tmod 64 < 64 := ⟨by have := Int.lt_tmod_of_pos ctx (show (0:Int) < 64 by omega); omega, Int.tmod_lt_of_pos ctx (by omega)⟩
  have q1 : IntKind.i64.wrap (ctx.tmod 64) = ctx.tmod 64 := IntWalk.i64_in _ (by omega)
  have q2 : IntKind.i64.wrap (ctx.tmod 64 + 64) = ctx.tmod 64 + 64 := IntWalk.i64_in _ (by omega)
  have q3 : (ctx.tmod 64 + 64).tmod 64 = (ctx.tmod 64 + 64) % 64 := Int.tmod_eq_emod_of_nonneg (by omega)
  have q4 : IntKind.i64.wrap ((ctx.tmod 64 + 64) % 64) = (ctx.tmod 64 + 64) % 64 := IntWalk.i64_in _ (by omega)
  obtain ⟨m, hm⟩ : ∃ m : Nat, (ctx.tmod 64 + 64) % 64 = m := ⟨((ctx.tmod 64 + 64) % 64).toNat, by omega⟩
  have hm64 : m < 64 := by omega
  have M := hid hm64
  clear r0 hm64
  rw [hm] at q3 q4
  clear hm
  go_enter Try.func5, Try.ntmps5
  go_wp2_with fail
  refine (first_any _).mono ?_
  rintro e w1 ⟨rfl, h1⟩
  have B1 := hid h1
  clear h1
  go_wp2_with fail
  refine (new_wr _).mono ?_
  rintro e w3 ⟨rb, F, rfl, a3, f3, b3⟩
  have B3 := hid (And.intro a3 (And.intro f3 b3))
  clear a3 f3 b3
  go_wp2_with fail
  refine (new_wr _).mono ?_
  rintro e w4 ⟨xb, G, rfl, a4, f4, b4⟩
  have hT : TwoAt w.heap.size w (AtWr rb) (AtWr xb) F G Wr.new Wr.new w4 := by
    have hs1 := B1.out.size
    have hs3 := B3.out.2.2.size
    have hth := fun k hk => (wr_coder rb).there _ F _ k B3.out.1 hk
    exact ⟨(wr_coder rb).keep _ _ F (fun k => w3.heap.size ≤ k) _ B3.out.1 (Only.of_below_up b4) (fun k hk => by have := hth k hk; omega), a4, fun k hk hg => by have := hth k hk; have := f4 k hg; omega, fun k hk => by have := B3.out.2.1 k hk; omega, fun k hk => by have := f4 k hk; omega, (B1.out.trans (B3.out.2.2.mono hs1)).trans (b4.mono (by omega)), by have := b4.size; omega⟩
  have T := hid hT
  clear a4 f4 b4 hT
  go_wp2_with fail
  go_loopg [7] l.length (fun k i wr => ∃ (j : Nat) (s : Wr) (t : Wr), j + k = l.length ∧ j ≤ 2000 ∧ i = .int .i64 j ∧ Two w.heap.size w (AtWr rb) (AtWr xb) s t wr ∧ ApartAt m s t j)
  case atStart => exact ⟨0, _, _, by omega, by omega, rfl, ⟨F, G, T.out⟩, ⟨rfl, ⟨0, by omega, ok_wr_new⟩, ⟨0, by omega, ok_wr_new⟩⟩⟩
  case round =>
    clear T B3 B1
    obtain ⟨j, s, t, hj, hj2, rfl, ⟨F, G, hT⟩, hb⟩ := hrel
    have T := hid (And.intro hT (And.intro hb hj))
    clear hT hb hj
    by_cases hlt : j < l.length ∧ j < 2000
    · have j1 : decide ((j : Int) < (l.length : Int)) = true := by simp; omega
      have j2 : decide ((j : Int) < 2000) = true := by simp; omega
      have JJ := hid hlt
      clear hlt
      obtain ⟨o, hoj⟩ : ∃ o, l[j]? = some o := ⟨l[j]'JJ.out.1, List.getElem?_eq_getElem JJ.out.1⟩
      obtain ⟨lb, off, rfl, hlb, hcs⟩ := Y.out (by intro e; rw [e] at hoj; simp at hoj)
      have hc := ops_cells T.out.1.bel hlb (hcs j o hoj)
      obtain ⟨c0, c1, c2', c3⟩ := hc
      have C0 := hid (And.intro (hcs j o hoj) hlb)
      clear hcs hoj
      have k0 : (0 : Int) ≤ (j : Int) := by omega
      have k1 : (j : Int) < (l.length : Int) := by have := JJ.out.1; omega
      have KK := hid (And.intro T.out.2.2 JJ.out)
      by_cases hk : o.kind < 0 ∨ 1 < o.kind
      · have hex : 1 < o.kind ∨ (¬ 1 < o.kind ∧ o.kind < 0) := by omega
        clear hk
        rcases hex with g1 | ⟨g1, g2⟩
        all_goals
          first
            | have g3 : decide (1 < o.kind) = true := by simp; omega
            | have g3 : decide (1 < o.kind) = false := by simp; omega
          try have g4 : decide (o.kind < 0) = true := decide_eq_true g2
          go_wp2_with fail
          have kk := KK.out
          go_roundg (gk - 1)
          case measure => omega
          case rel => exact ⟨j + 1, s, t, by omega, by omega, by go_num, ⟨F, G, T.out.1⟩, T.out.2.1.next⟩
      · have g3 : decide (1 < o.kind) = false := by simp; omega
        have g4 : decide (o.kind < 0) = false := by simp; omega
        obtain ⟨n1, hn1, ok1⟩ := T.out.2.1.ok1
        obtain ⟨n2, hn2, ok2⟩ := T.out.2.1.ok2
        have jl : j ≤ 2000 := hj2
        have HA : Hid (∀ (W : World) (F : Nat → Prop), AtWr rb W F s → Calls Try.prog 12 #[.iface 46 (.pointer (some ⟨rb, 0, none⟩)), .agg #[.int .i64 o.kind, .int .i64 o.c, .int .i64 o.v, .bool o.b]] W (Coded (AtWr rb) W F (wrM.asks o (cut o.v 0 3) s))) := fun W F h =>
          asks_any rb _ (wr_coder rb) (wr_speaks rb) o s W F n1 h ok1 (by omega)
        have HW : Hid (∀ (W : World) (F : Nat → Prop), AtWr xb W F t → Calls Try.prog 12 #[.iface 46 (.pointer (some ⟨xb, 0, none⟩)), .agg #[.int .i64 o.kind, .int .i64 o.c, .int .i64 o.v, .bool o.b]] W (Coded (AtWr xb) W F (wrM.asks o (cut o.v 0 3) t))) := fun W F h =>
          asks_any xb _ (wr_coder xb) (wr_speaks xb) o t W F n2 h ok2 (by omega)
        clear hn1 ok1 hn2 ok2
        by_cases hd : o.kind = 0 ∧ o.c = m
        · have hap := hid (T.out.2.1.both o M.out hd.1 hd.2)
          obtain ⟨okd, oc, ov, ob⟩ := o
          obtain ⟨rfl, rfl⟩ := hd
          clear g3 g4 hk
          have T0 := hid T.out.1
          go_wp2_with fail
          refine (HA.out _ F (by exact T0.out.l)).mono ?_
          rintro e w5 ⟨rfl, hm5⟩
          obtain ⟨F2, G2, hT2⟩ := T0.out.left (wr_coder xb) hm5
          obtain ⟨d0, d1, d2, d3⟩ := ops_cells (o := ⟨0, m, ov, ob⟩) hT2.bel C0.out.2 C0.out.1
          have T2 := hid hT2
          clear hm5 hT2
          go_wp2_with fail
          refine (HW.out _ G2 (by exact T2.out.r)).mono ?_
          rintro e w6 ⟨rfl, hm6⟩
          obtain ⟨F3, G3, hT3⟩ := T2.out.right (wr_coder rb) hm6
          have T3 := hid (hT3.read (wr_coder rb) (wr_coder xb) ((Only.refl _ w6).drew))
          have CH : Hid (∀ b, (b = rb ∨ b = xb) → Calls Try.prog 16 #[.pointer (some ⟨b, 0, none⟩), .int .i64 m] w6.drew fun e w' => e = .returned (.int .i64 (chanceOf (wrM.asks ⟨0, m, ov, ob⟩ (cut ov 0 3) s).2.P m)) ∧ w6.drew = w') := by
            rintro b (rfl | rfl)
            · exact wr_chance b _ F3 _ _ T3.out.l hap.out.len1
            · rw [← hap.out.chance]
              exact wr_chance b _ G3 _ _ T3.out.r hap.out.len2
          clear hm6 hT3 d0 d1 d2 d3 c0 c1 c2' c3
          go_wp2_with fail
          go_region_held3 (fun _ => True)
            (exact trivial)
            (first
              | (go_at_call 16
                 refine (CH.out _ (by first | exact .inl rfl | exact .inr rfl)).mono ?_
                 rintro e w7 ⟨rfl, rfl⟩))
          all_goals
            go_wp2_with fail
            have kk := KK.out
            go_roundg (gk - 1)
            case measure => omega
            case rel => exact ⟨j + 1, _, _, by omega, by omega, by go_num, ⟨F3, G3, T3.out⟩, hap.out⟩
        · have hap := hid (T.out.2.1.one o (by omega))
          have hex : (o.kind = 1 ∧ (o.kind == 0) = false) ∨ (o.kind = 0 ∧ (o.kind == 0) = true ∧ (o.c == (m : Int)) = false) := by
            by_cases h0 : o.kind = 0
            · exact .inr ⟨h0, by simp [h0], by simp; omega⟩
            · exact .inl ⟨by omega, by simp [h0]⟩
          have T0 := hid T.out.1
          clear hd hk
          rcases hex with ⟨x0, x1⟩ | ⟨x0, x1, x2⟩
          all_goals
            clear x0
            go_wp2_with fail
            refine (HA.out _ F (by exact T0.out.l)).mono ?_
            rintro e w5 ⟨rfl, hm5⟩
            obtain ⟨F2, G2, hT2⟩ := T0.out.left (wr_coder xb) hm5
            obtain ⟨d0, d1, d2, d3⟩ := ops_cells hT2.bel C0.out.2 C0.out.1
            have T2 := hid (hT2.read (wr_coder rb) (wr_coder xb) ((Only.refl _ w5).drew))
            have CH : Hid (∀ b, (b = rb ∨ b = xb) → Calls Try.prog 16 #[.pointer (some ⟨b, 0, none⟩), .int .i64 m] w5.drew fun e w' => e = .returned (.int .i64 (chanceOf (wrM.asks o (cut o.v 0 3) s).2.P m)) ∧ w5.drew = w') := by
              rintro b (rfl | rfl)
              · exact wr_chance b _ F2 _ _ T2.out.l hap.out.len1
              · rw [← hap.out.chance]
                exact wr_chance b _ G2 _ _ T2.out.r hap.out.len2
            clear hm5 hT2
            go_wp2_with fail
            go_region_held3 (fun _ => True)
              (exact trivial)
              (first
                | (go_at_call 16
                   refine (CH.out _ (by first | exact .inl rfl | exact .inr rfl)).mono ?_
                   rintro e w7 ⟨rfl, rfl⟩))
            all_goals
              go_wp2_with fail
              have kk := KK.out
              go_roundg (gk - 1)
              case measure => omega
              case rel => exact ⟨j + 1, _, _, by omega, by omega, by go_num, ⟨F2, G2, T2.out⟩, hap.out⟩
    · have hex : (l.length ≤ j ∨ (j < l.length ∧ 2000 ≤ j)) := by omega
      clear hlt
      rcases hex with hj1 | ⟨hj1, hj3⟩
      all_goals
        first
          | have q1 : decide ((j : Int) < (l.length : Int)) = false := by simp; omega
          | have q1 : decide ((j : Int) < (l.length : Int)) = true := by simp; omega
        have q2 : 2000 ≤ j → decide ((j : Int) < 2000) = false := by intro h; simp; omega
        first
          | have q3 := q2 hj3
          | skip
        clear q2
        go_wp2_with fail
        refine (first_any _).mono ?_
        rintro e w9 ⟨rfl, h9⟩
        have B9 := hid h9
        clear h9
        go_wp2_with fail
        go_ret
        exact ⟨rfl, T.out.1.bel.trans (B9.out.mono T.out.1.size)⟩
end Go.Proofs.Ytgdhbmpdicdbpaa
