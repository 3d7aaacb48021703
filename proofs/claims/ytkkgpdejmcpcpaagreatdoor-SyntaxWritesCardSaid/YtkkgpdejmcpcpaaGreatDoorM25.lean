/- Parts: XSynB, XPartR. -/
import Derived.Test.YtkkgpdejmcpcpaaGreatDoorM24
import Derived.Test.YtkkgpdejmcpcpaaGreatDoorM22
/- Chapter 20: bounds, check. -/
namespace Go.Proofs.YtkkgpdejmcpcpaaGreatDoor
open Go.RowKit

/-- A value that is a square. -/
structure SqNum (v : Value) (s : SqS) (m0 m1 m2 m3 : Int) (lv v0 v1 v2 v3 : Value) : Prop where
  v : v = sqV s.kind s.mode m0 m1 m2 m3 s.x s.y lv v0 v1 v2 v3
  m : s.modes = [m0, m1, m2, m3]
theorem nums_in_blk {W : World} {g : Nat} {t : TypeId} {cs : Array Value} {off : Nat} {l : List Int} {c : Nat} (h : Blk W g t cs) (hl : ∀ i v, l[i]? = some v → cs[off + i]? = some (.int .i64 v)) (hc : l.length ≤ c) : Nums W (.slice (some ⟨g, off, none⟩) l.length c) l := by
  refine ⟨_, _, rfl, hc, fun _ => ⟨g, off, rfl, h.lt, fun i v hv => ?_⟩⟩
  rw [h.cell]
  exact hl i v hv
set_option maxRecDepth 100000 in
set_option maxHeartbeats 1000000 in
theorem bounds_any (vv : Value) (s : SqS) (m0 m1 m2 m3 : Int) (lv v0 v1 v2 v3 : Value) (hv : SqNum vv s m0 m1 m2 m3 lv v0 v1 v2 v3) (w : World) :
    Calls Tryz.prog 55 #[vv] w fun e w' => e = .returned (.bool (boundsS s)) ∧ Below w.heap.size w w' := by
  obtain ⟨rfl, hm⟩ := hv
  unfold sqV
  have BD := hid (show boundsS s = if s.kind = 1 then inPart s.x && inPart s.y else if s.kind = 2 then inMode s.mode else if s.kind = 3 then s.modes.all inMode else true from rfl)
  rw [hm] at BD
  generalize boundsS s = q at *
  generalize s.kind = k at *
  generalize s.mode = mode at *
  generalize s.x = x at *
  generalize s.y = y at *
  have hb1 : Below w.heap.size w (w.alloc (.cells #[.int .i64 k, .int .i64 mode, .int .i64 m0, .int .i64 m1, .int .i64 m2, .int .i64 m3, .int .i64 x, .int .i64 y, lv, v0, v1, v2, v3] 36)) := (Below.refl _ _).alloc (Nat.le_refl _) _
  have B1 := hid hb1
  have HK := hid (Blk.new w 36 #[.int .i64 k, .int .i64 mode, .int .i64 m0, .int .i64 m1, .int .i64 m2, .int .i64 m3, .int .i64 x, .int .i64 y, lv, v0, v1, v2, v3])
  clear hb1
  have hc : k = 1 ∨ k = 2 ∨ k = 3 ∨ (¬ k = 1 ∧ ¬ k = 2 ∧ ¬ k = 3) := by omega
  rcases hc with rfl | rfl | rfl | ⟨h1, h2, h3⟩
  · have hx : inPart x = true ∨ inPart x = false := by cases inPart x <;> simp
    rcases hx with hx | hx
    all_goals
      go_enter Tryz.func55, Tryz.ntmps55
      go_wp2_with (go_at_call 76; refine (part_tell _ _).mono ?_; rintro e w2 ⟨rfl, rfl⟩)
      go_ret
      refine ⟨?_, B1.out⟩
      rw [BD.out]
      simp [hx]
  · go_enter Tryz.func55, Tryz.ntmps55
    go_wp2_with (go_at_call 77; refine (mode_tell _ _).mono ?_; rintro e w2 ⟨rfl, rfl⟩)
    go_ret
    refine ⟨?_, B1.out⟩
    rw [BD.out]
    simp
  · go_enter Tryz.func55, Tryz.ntmps55
    go_wp2_with fail
    refine (contains_any _ _ tells_mode _ [m0, m1, m2, m3] _ (nums_in_blk HK.out (off := 2) (c := 4) (fun i v hv => ?_) (by simp)) (by simp)).mono ?_
    · match i, hv with
      | 0, hv => simpa using hv
      | 1, hv => simpa using hv
      | 2, hv => simpa using hv
      | 3, hv => simpa using hv
      | i + 4, hv => simp at hv
    rintro e w2 ⟨rfl, rfl⟩
    go_wp2_with fail
    go_ret
    refine ⟨?_, B1.out⟩
    have hq : q = [m0, m1, m2, m3].all inMode := by rw [BD.out]; simp
    rw [hq]
    simp
  · go_enter Tryz.func55, Tryz.ntmps55
    have d1 : (k == 1) = false := by simp; omega
    have d2 : (k == 2) = false := by simp; omega
    have d3 : (k == 3) = false := by simp; omega
    go_wp2_with fail
    go_ret
    refine ⟨?_, B1.out⟩
    rw [BD.out]
    simp [h1, h2, h3]
/-- A value that is a square, with its lists. -/
structure SqArg (W : World) (v : Value) (s : SqS) (m0 m1 m2 m3 : Int) (lv v0 v1 v2 v3 : Value) (l0 l1 l2 l3 : List Int) : Prop where
  num : SqNum v s m0 m1 m2 m3 lv v0 v1 v2 v3
  sm : s.small = [l0, l1, l2, l3]
  lg : Nums W lv s.large
  n0 : Nums W v0 l0
  n1 : Nums W v1 l1
  n2 : Nums W v2 l2
  n3 : Nums W v3 l3
theorem idx4 (v0 v1 v2 v3 : Value) (W : World) :
    (Instr.index 34 (.agg #[v0, v1, v2, v3]) (.int .i64 0)).run Tryz.prog W = .ok v0 W ∧
    (Instr.index 34 (.agg #[v0, v1, v2, v3]) (.int .i64 1)).run Tryz.prog W = .ok v1 W ∧
    (Instr.index 34 (.agg #[v0, v1, v2, v3]) (.int .i64 2)).run Tryz.prog W = .ok v2 W ∧
    (Instr.index 34 (.agg #[v0, v1, v2, v3]) (.int .i64 3)).run Tryz.prog W = .ok v3 W :=
  ⟨by kernel_rfl, by kernel_rfl, by kernel_rfl, by kernel_rfl⟩
theorem SqArg.below {W W' : World} {v : Value} {s : SqS} {m0 m1 m2 m3 : Int} {lv v0 v1 v2 v3 : Value} {l0 l1 l2 l3 : List Int} (h : SqArg W v s m0 m1 m2 m3 lv v0 v1 v2 v3 l0 l1 l2 l3) (hb : Below W.heap.size W W') : SqArg W' v s m0 m1 m2 m3 lv v0 v1 v2 v3 l0 l1 l2 l3 :=
  ⟨h.num, h.sm, h.lg.below hb, h.n0.below hb, h.n1.below hb, h.n2.below hb, h.n3.below hb⟩
set_option maxRecDepth 100000 in
set_option maxHeartbeats 4000000 in
theorem scheck_any (key : Bool) (vv : Value) (s : SqS) (m0 m1 m2 m3 : Int) (lv v0 v1 v2 v3 : Value) (l0 l1 l2 l3 : List Int) (w : World) (hv : SqArg w vv s m0 m1 m2 m3 lv v0 v1 v2 v3 l0 l1 l2 l3) :
    Calls Tryz.prog 33 #[.bool key, vv] w fun e w' => e = .returned (codeV (askNo key s)) ∧ Below w.heap.size w w' := by
  have HB := hid (fun W => bounds_any vv s m0 m1 m2 m3 lv v0 v1 v2 v3 hv.num W)
  have hn := hv.num.v
  have hsm := hv.sm
  have SA := hid hv
  clear hv
  subst hn
  have AK := hid (show askNo key s = if s.kind < 0 ∨ 3 < s.kind ∨ (key = true ∧ s.kind < 2) then 13 else if boundsS s = false then 3 else if s.kind = 1 ∨ s.kind = 2 then levelsNo s.large 64 else if s.kind = 3 then smallNo s.small else 0 from rfl)
  rw [hsm] at AK
  clear hsm
  unfold sqV at HB ⊢
  generalize askNo key s = q at *
  generalize boundsS s = bo at *
  generalize s.kind = k at *
  generalize s.mode = mode at *
  generalize s.x = x at *
  generalize s.y = y at *
  have hb1 : Below w.heap.size w (w.alloc (.cells #[.int .i64 k, .int .i64 mode, .int .i64 m0, .int .i64 m1, .int .i64 m2, .int .i64 m3, .int .i64 x, .int .i64 y, lv, v0, v1, v2, v3] 36)) := (Below.refl _ _).alloc (Nat.le_refl _) _
  have B1 := hid hb1
  have HK := hid (Blk.new w 36 #[.int .i64 k, .int .i64 mode, .int .i64 m0, .int .i64 m1, .int .i64 m2, .int .i64 m3, .int .i64 x, .int .i64 y, lv, v0, v1, v2, v3])
  clear hb1
  have hc : (decide (k < 0) = true ∧ k < 0) ∨ (decide (k < 0) = false ∧ decide (3 < k) = true ∧ 3 < k) ∨ (decide (k < 0) = false ∧ decide (3 < k) = false ∧ 0 ≤ k ∧ k ≤ 3) := by
    by_cases h1 : k < 0
    · exact .inl ⟨by simpa using h1, h1⟩
    · by_cases h2 : 3 < k
      · exact .inr (.inl ⟨by simpa using h1, by simpa using h2, h2⟩)
      · exact .inr (.inr ⟨by simpa using h1, by simpa using h2, by omega, by omega⟩)
  have hbad : k < 0 ∨ 3 < k ∨ (key = true ∧ k < 2) → Hid (q = 13) := fun h => hid (by rw [AK.out, if_pos h])
  have hgood : ¬ (k < 0 ∨ 3 < k ∨ (key = true ∧ k < 2)) → Hid (q = if bo = false then 3 else if k = 1 ∨ k = 2 then levelsNo s.large 64 else if k = 3 then smallNo [l0, l1, l2, l3] else 0) := fun h => hid (by rw [AK.out, if_neg h])
  clear AK
  rcases hc with ⟨d1, h1⟩ | ⟨d1, d2, h1⟩ | ⟨d1, d2, h0, h3⟩
  · have Q := hbad (.inl h1)
    clear hbad hgood h1
    go_enter Tryz.func33, Tryz.ntmps33
    go_wp2_with fail
    go_ret
    refine ⟨?_, B1.out⟩
    rw [Q.out]
    rfl
  · have Q := hbad (.inr (.inl h1))
    clear hbad hgood h1
    go_enter Tryz.func33, Tryz.ntmps33
    go_wp2_with fail
    go_ret
    refine ⟨?_, B1.out⟩
    rw [Q.out]
    rfl
  · have hkk : (key = true ∧ decide (k < 2) = true ∧ k < 2) ∨ ((key = true ∧ decide (k < 2) = false ∨ key = false) ∧ ¬ (key = true ∧ k < 2)) := by
      cases key
      · exact .inr ⟨.inr rfl, fun h => by simp at h⟩
      · by_cases h : k < 2
        · exact .inl ⟨rfl, by simpa using h, h⟩
        · exact .inr ⟨.inl ⟨rfl, by simpa using h⟩, fun h2 => h h2.2⟩
    rcases hkk with ⟨rfl, d3, h4⟩ | ⟨hkey, h4⟩
    · have Q := hbad (.inr (.inr ⟨rfl, h4⟩))
      clear hbad hgood h0 h3 h4
      go_enter Tryz.func33, Tryz.ntmps33
      go_wp2_with fail
      go_ret
      refine ⟨?_, B1.out⟩
      rw [Q.out]
      rfl
    · have Q := hgood (by
        rintro (h | h | h)
        · omega
        · omega
        · exact h4 h)
      clear hbad hgood h4
      rcases hkey with ⟨rfl, d3⟩ | rfl
      all_goals
        go_enter Tryz.func33, Tryz.ntmps33
        go_wp2_with fail
        generalize hw1 : w.alloc (.cells #[.int .i64 k, .int .i64 mode, .int .i64 m0, .int .i64 m1, .int .i64 m2, .int .i64 m3, .int .i64 x, .int .i64 y, lv, v0, v1, v2, v3] 36) = w1 at *
        clear hw1
        refine (HB.out _).mono ?_
        rintro e w2 ⟨rfl, hb2⟩
        have B2 := hid (B1.out.trans (hb2.mono B1.out.size))
        have HK2 := hid (HK.out.below hb2 HK.out.lt)
        have SA2 := hid (SA.out.below B2.out)
        clear hb2
        cases bo with
        | false =>
          have Q3 := hid (show q = 3 by rw [Q.out]; rfl)
          go_wp2_with fail
          go_ret
          refine ⟨?_, B2.out⟩
          rw [Q3.out]
          rfl
        | true =>
          have QQ := hid (show q = if k = 1 ∨ k = 2 then levelsNo s.large 64 else if k = 3 then smallNo [l0, l1, l2, l3] else 0 by rw [Q.out]; rfl)
          clear Q
          have c0 : w2.cell? ⟨w.heap.size, 0, none⟩ = some (.int .i64 k) := by simpa using HK2.out.cell 0
          have c8 : w2.cell? ⟨w.heap.size, 8, none⟩ = some lv := by simpa using HK2.out.cell 8
          have c9 : w2.cell? ⟨w.heap.size, 9, none⟩ = some v0 := by simpa using HK2.out.cell 9
          have c10 : w2.cell? ⟨w.heap.size, 10, none⟩ = some v1 := by simpa using HK2.out.cell 10
          have c11 : w2.cell? ⟨w.heap.size, 11, none⟩ = some v2 := by simpa using HK2.out.cell 11
          have c12 : w2.cell? ⟨w.heap.size, 12, none⟩ = some v3 := by simpa using HK2.out.cell 12
          have hc : k = 0 ∨ k = 1 ∨ k = 2 ∨ k = 3 := by omega
          clear d1 d2 h0 h3
          rcases hc with rfl | rfl | rfl | rfl
          · have Q3 := hid (show q = 0 by rw [QQ.out]; rfl)
            clear QQ
            go_wp2_with fail
            go_ret
            refine ⟨?_, B2.out⟩
            rw [Q3.out]
            rfl
          · have Q3 := hid (show q = levelsNo s.large 64 by rw [QQ.out]; rfl)
            clear QQ
            go_wp2_with fail
            refine (levels_any lv s.large 64 64 rfl _ SA2.out.lg (.inr rfl)).mono ?_
            rintro e w3 ⟨rfl, rfl⟩
            rw [← Q3.out]
            go_wp2_with fail
            go_ret
            exact ⟨rfl, B2.out⟩
          · have Q3 := hid (show q = levelsNo s.large 64 by rw [QQ.out]; rfl)
            clear QQ
            go_wp2_with fail
            refine (levels_any lv s.large 64 64 rfl _ SA2.out.lg (.inr rfl)).mono ?_
            rintro e w3 ⟨rfl, rfl⟩
            rw [← Q3.out]
            go_wp2_with fail
            go_ret
            exact ⟨rfl, B2.out⟩
          · have Q3 := hid (show q = smallNo [l0, l1, l2, l3] by rw [QQ.out]; rfl)
            clear QQ
            go_wp2_with fail
            go_loopg [43] 4 (fun j iv wr => ∃ i : Nat, i + j = 4 ∧ iv = .int .i64 i ∧ w2 = wr ∧ q = smallNo ([l0, l1, l2, l3].drop i))
            case atStart => exact ⟨0, by omega, rfl, rfl, Q3.out⟩
            case round =>
              obtain ⟨i, hij, rfl, rfl, hq⟩ := hrel
              have HQ := hid (And.intro hij hq)
              have hci : i = 4 ∨ i = 0 ∨ i = 1 ∨ i = 2 ∨ i = 3 := by omega
              clear hij hq Q3
              have step : ∀ (i : Nat) (l : List Int) (r : List (List Int)), [l0, l1, l2, l3].drop i = l :: r → [l0, l1, l2, l3].drop (i + 1) = r → q = smallNo ([l0, l1, l2, l3].drop i) → (levelsNo l 16 = 0 → q = smallNo ([l0, l1, l2, l3].drop (i + 1))) ∧ (levelsNo l 16 ≠ 0 → q = levelsNo l 16) := by
                intro i l r e1 e2 e3
                rw [e1] at e3
                rw [e2]
                unfold smallNo at e3
                constructor
                · intro h
                  rw [if_neg (fun k => k h)] at e3
                  exact e3
                · intro h
                  rw [if_pos h] at e3
                  exact e3
              rcases hci with rfl | rfl | rfl | rfl | rfl
              · have Q4 := hid (show q = 0 from HQ.out.2)
                go_wp2_with fail
                go_ret
                refine ⟨?_, B2.out⟩
                rw [Q4.out]
                rfl
              all_goals
                obtain ⟨ix0, ix1, ix2, ix3⟩ := idx4 v0 v1 v2 v3 w2
                first
                  | (have ST := hid (step 0 l0 [l1, l2, l3] rfl rfl HQ.out.2); have HL := hid (levels_any v0 l0 16 16 rfl _ SA2.out.n0 (.inl rfl)); have hl : levelsNo l0 16 = 0 ∨ levelsNo l0 16 ≠ 0 := by omega)
                  | (have ST := hid (step 1 l1 [l2, l3] rfl rfl HQ.out.2); have HL := hid (levels_any v1 l1 16 16 rfl _ SA2.out.n1 (.inl rfl)); have hl : levelsNo l1 16 = 0 ∨ levelsNo l1 16 ≠ 0 := by omega)
                  | (have ST := hid (step 2 l2 [l3] rfl rfl HQ.out.2); have HL := hid (levels_any v2 l2 16 16 rfl _ SA2.out.n2 (.inl rfl)); have hl : levelsNo l2 16 = 0 ∨ levelsNo l2 16 ≠ 0 := by omega)
                  | (have ST := hid (step 3 l3 [] rfl rfl HQ.out.2); have HL := hid (levels_any v3 l3 16 16 rfl _ SA2.out.n3 (.inl rfl)); have hl : levelsNo l3 16 = 0 ∨ levelsNo l3 16 ≠ 0 := by omega)
                rcases hl with hl | hl
                · have Q5 := hid (ST.out.1 hl)
                  rw [hl] at HL
                  clear ST step hl
                  go_wp2_with fail
                  refine HL.out.mono ?_
                  rintro e w3 ⟨rfl, rfl⟩
                  rw [show codeV 0 = .nilIface from rfl]
                  go_wp2_with fail
                  go_roundg (gk - 1)
                  case measure => have := HQ.out.1; omega
                  case rel => exact ⟨_, by have := HQ.out.1; omega, by go_num, rfl, Q5.out⟩
                · have Q5 := hid (ST.out.2 hl)
                  have hcv : codeV q = .iface 43 (.int .i64 q) := by unfold codeV; rw [if_neg (by rw [Q5.out]; exact hl)]
                  rw [← Q5.out] at HL
                  rw [hcv] at HL
                  have HC := hid hcv
                  clear ST step hl hcv Q5
                  go_wp2_with fail
                  refine HL.out.mono ?_
                  rintro e w3 ⟨rfl, rfl⟩
                  go_wp2_with fail
                  go_ret
                  rw [HC.out]
                  exact ⟨rfl, B2.out⟩
end Go.Proofs.YtkkgpdejmcpcpaaGreatDoor

/- The document's Kind, Mode, Part: at whatever coder. -/
namespace Go.Proofs.YtkkgpdejmcpcpaaGreatDoor
open Go.RowKit
section
variable {σ : Type} {M : Mach σ} {fB fF : FuncId} {At : World → (Nat → Prop) → σ → Prop} {Ok : σ → Nat → Prop}
set_option maxRecDepth 100000 in
set_option maxHeartbeats 400000 in
theorem rkind_any (b : Nat) (H : IsCoder M 65 64 (.pointer (some ⟨b, 0, none⟩)) At Ok) (k : Int) (s : σ) (w : World) (F : Nat → Prop) (lim : Nat) (hs : At w F s) (ho : Ok s lim) (hl : lim + 100 ≤ 1000000000) :
    Calls Tryz.prog 63 #[.pointer (some ⟨b, 0, none⟩), .int .i64 k] w (Coded At w F (M.kind k s)) := by
  have S := hid (And.intro hs ho)
  clear hs ho
  go_enter Tryz.func63, Tryz.ntmps63
  go_wp2_with fail
  generalize k = kk at *
  go_loopg [5] 3 (fun j i wr => OnesRel M At Ok (fun n => n) kk 3 lim (M.ones (fun n => n) kk 3 0 s) w F j i wr)
  case atStart => exact ⟨0, s, rfl, rfl, Moved.refl S.out.1, S.out.2, rfl⟩
  case round =>
    obtain ⟨n, s', hn, rfl, hmv, ho, hfin⟩ := hrel
    have X := hid (And.intro hmv (And.intro ho hfin))
    clear hmv ho hfin
    by_cases h3 : n < 3
    · obtain ⟨j, rfl⟩ : ∃ j, gk = j + 1 := ⟨gk - 1, by omega⟩
      have hd : decide ((n : Int) < kk) = true ∨ decide ((n : Int) < kk) = false := by cases decide ((n : Int) < kk) <;> simp
      obtain ⟨F1, a1, o1, f1⟩ := X.out.1
      have Y := hid (And.intro a1 (And.intro o1 f1))
      clear a1 o1 f1
      go_wp2_with fail
      refine (H.bitN _ F1 s' n (n : Int) rfl (by omega) _ (lim + 3 * n) Y.out.1 X.out.2.1 (by omega)).mono ?_
      rintro e w1 ⟨rfl, h1, ok2⟩
      have Z := hid (And.intro (Moved.step Y.out.2.1 Y.out.2.2 h1) ok2)
      clear h1 ok2 hd
      cases hq : (M.bit s' n (decide ((n : Int) < kk))).1 with
      | true =>
        have Q := hid hq
        clear hq
        go_wp2_with fail
        obtain ⟨z1, z2⟩ := Z.out
        go_roundg j
        case measure => omega
        case rel => exact ⟨n + 1, _, by omega, by go_num, z1, by rw [show lim + 3 * (n + 1) = lim + 3 * n + 3 by omega]; exact z2, by rw [← X.out.2.2, ones_yes (f := fun n => n) Q.out]⟩
      | false =>
        have Q := hid hq
        clear hq
        go_wp2_with fail
        go_ret
        obtain ⟨z1, z2⟩ := Z.out
        have e : M.kind kk s = ((n : Int), (M.bit s' n (decide ((n : Int) < kk))).2) := by
          unfold Mach.kind
          rw [← X.out.2.2, ones_no (f := fun n => n) Q.out]
        rw [e]
        exact ⟨rfl, z1⟩
    · obtain rfl : n = 3 := by omega
      obtain rfl : gk = 0 := by omega
      go_wp2_with fail
      go_ret
      have e : M.kind kk s = ((3 : Int), s') := by
        unfold Mach.kind
        rw [← X.out.2.2]
        rfl
      rw [e]
      exact ⟨rfl, X.out.1⟩

set_option maxRecDepth 100000 in
set_option maxHeartbeats 400000 in
theorem rmode_any (b : Nat) (H : IsCoder M 65 64 (.pointer (some ⟨b, 0, none⟩)) At Ok) (m : Int) (s : σ) (w : World) (F : Nat → Prop) (lim : Nat) (hs : At w F s) (ho : Ok s lim) (hl : lim + 100 ≤ 1000000000) :
    Calls Tryz.prog 41 #[.pointer (some ⟨b, 0, none⟩), .int .i64 m] w (Coded At w F (M.mode m s)) := by
  have hc := cut_03 m
  have hmo : M.mode m s = ((if (M.bit s 3 (decide (1 < cut m 0 3))).1 then 2 else 0) + (if (M.bit (M.bit s 3 (decide (1 < cut m 0 3))).2 (if (M.bit s 3 (decide (1 < cut m 0 3))).1 then 5 else 4) (decide (cut m 0 3 % 2 = 1))).1 then 1 else 0), (M.bit (M.bit s 3 (decide (1 < cut m 0 3))).2 (if (M.bit s 3 (decide (1 < cut m 0 3))).1 then 5 else 4) (decide (cut m 0 3 % 2 = 1))).2) := rfl
  have S := hid (And.intro hs ho)
  have MO := hid hmo
  clear hs ho hmo
  go_enter Tryz.func41, Tryz.ntmps41
  have hcut : min (max m 0) 3 = cut m 0 3 := rfl
  go_wp2_with fail
  clear hcut
  generalize cut m 0 3 = mm at *
  refine (H.bitN _ F s 3 _ rfl (by omega) _ lim S.out.1 S.out.2 (by omega)).mono ?_
  rintro e w1 ⟨rfl, ⟨F1, a1, o1, f1⟩, ok1⟩
  have Y := hid (And.intro a1 (And.intro o1 (And.intro f1 ok1)))
  clear a1 o1 f1 ok1
  cases hq : (M.bit s 3 (decide (1 < mm))).1 with
  | true =>
    have Q := hid hq
    clear hq
    go_wp2_with fail
    refine (H.bitN _ F1 _ 5 _ rfl (by omega) _ _ Y.out.1 Y.out.2.2.2 (by omega)).mono ?_
    rintro e w2 ⟨rfl, h2, ok2⟩
    have Z := hid (Moved.step Y.out.2.1 Y.out.2.2.1 h2)
    clear h2 ok2
    have e2 : (mm % 2 == 1) = decide (mm % 2 = 1) := by cases h : decide (mm % 2 = 1) <;> simp_all
    have E2 := hid e2
    clear e2
    cases hq2 : (M.bit (M.bit s 3 (decide (1 < mm))).2 5 (mm % 2 == 1)).1 with
    | true =>
      have Q2 := hid hq2
      clear hq2
      go_wp2_with fail
      go_ret
      have q2 := Q2.out
      have z := Z.out
      rw [E2.out] at q2 z
      rw [MO.out, Q.out]
      simp only [if_true, q2]
      exact ⟨rfl, z⟩
    | false =>
      have Q2 := hid hq2
      clear hq2
      go_wp2_with fail
      go_ret
      have q2 := Q2.out
      have z := Z.out
      rw [E2.out] at q2 z
      rw [MO.out, Q.out]
      simp only [if_true, q2]
      exact ⟨rfl, z⟩
  | false =>
    have Q := hid hq
    clear hq
    go_wp2_with fail
    refine (H.bitN _ F1 _ 4 _ rfl (by omega) _ _ Y.out.1 Y.out.2.2.2 (by omega)).mono ?_
    rintro e w2 ⟨rfl, h2, ok2⟩
    have Z := hid (Moved.step Y.out.2.1 Y.out.2.2.1 h2)
    clear h2 ok2
    have e2 : (mm % 2 == 1) = decide (mm % 2 = 1) := by cases h : decide (mm % 2 = 1) <;> simp_all
    have E2 := hid e2
    clear e2
    cases hq2 : (M.bit (M.bit s 3 (decide (1 < mm))).2 4 (mm % 2 == 1)).1 with
    | true =>
      have Q2 := hid hq2
      clear hq2
      go_wp2_with fail
      go_ret
      have q2 := Q2.out
      have z := Z.out
      rw [E2.out] at q2 z
      rw [MO.out, Q.out]
      simp only [Bool.false_eq_true, if_false, q2, if_true]
      exact ⟨rfl, z⟩
    | false =>
      have Q2 := hid hq2
      clear hq2
      go_wp2_with fail
      go_ret
      have q2 := Q2.out
      have z := Z.out
      rw [E2.out] at q2 z
      rw [MO.out, Q.out]
      simp only [Bool.false_eq_true, if_false, q2]
      exact ⟨rfl, z⟩
set_option maxRecDepth 100000 in
set_option maxHeartbeats 800000 in
theorem rpart_any (b : Nat) (H : IsCoder M 65 64 (.pointer (some ⟨b, 0, none⟩)) At Ok) (v : Int) (s : σ) (w : World) (F : Nat → Prop) (lim : Nat) (hs : At w F s) (ho : Ok s lim) (hl : lim + 100 ≤ 1000000000) :
    Calls Tryz.prog 40 #[.pointer (some ⟨b, 0, none⟩), .int .i64 v] w (Coded At w F (M.part v s)) := by
  have hc := cut_15 v
  have hpd := part_def M v s
  have S := hid (And.intro hs ho)
  have PD := hid hpd
  clear hs ho hpd
  go_enter Tryz.func40, Tryz.ntmps40
  have hcut : min (max v (-15)) 15 = cut v (-15) 15 := rfl
  go_wp2_with fail
  clear hcut
  generalize cut v (-15) 15 = vv at *
  have e1 : (vv != 0) = decide (vv ≠ 0) := by cases h : decide (vv ≠ 0) <;> simp_all
  have E1 := hid e1
  clear e1
  refine (H.bitN _ F s 6 _ rfl (by omega) _ lim S.out.1 S.out.2 (by omega)).mono ?_
  rintro e w1 ⟨rfl, ⟨F1, a1, o1, f1⟩, ok1⟩
  rw [E1.out] at *
  have Y := hid (And.intro a1 (And.intro o1 (And.intro f1 ok1)))
  clear a1 o1 f1 ok1
  cases hq : (M.bit s 6 (decide (vv ≠ 0))).1 with
  | false =>
    have Q := hid hq
    clear hq
    go_wp2_with fail
    go_ret
    rw [PD.out, Q.out]
    simp only [Bool.false_eq_true, if_false]
    exact ⟨rfl, F1, Y.out.1, Y.out.2.1, Y.out.2.2.1⟩
  | true =>
    have Q := hid hq
    clear hq
    generalize hs1 : (M.bit s 6 (decide (vv ≠ 0))).2 = s1 at *
    have HS1 := hid hs1
    clear hs1
    go_wp2_with fail
    refine (H.flatN _ F1 s1 _ _ Y.out.1 Y.out.2.2.2 (by omega)).mono ?_
    rintro e w2 ⟨rfl, h2, ok2⟩
    obtain ⟨F2, a2, o2, f2⟩ := Moved.step Y.out.2.1 Y.out.2.2.1 h2
    have Z := hid (And.intro a2 (And.intro o2 (And.intro f2 ok2)))
    clear a2 o2 f2 ok2 h2
    generalize hdn : (M.flat s1 (decide (vv < 0))).1 = dn at *
    have DN := hid hdn
    clear hdn
    generalize hs2 : (M.flat s1 (decide (vv < 0))).2 = s2 at *
    have HS2 := hid hs2
    clear hs2
    have hmx : 0 ≤ max vv (-vv) ∧ max vv (-vv) ≤ 15 := by omega
    go_wp2_with fail
    generalize hkk : max vv (-vv) - 1 = kk at *
    have KK := hid hkk
    clear hkk hmx
    go_loopg [7] 14 (fun j i wr => OnesRel M At Ok partCtx kk 14 (lim + 6) (M.ones partCtx kk 14 0 s2) w F j i wr)
    case atStart => exact ⟨0, s2, rfl, rfl, ⟨F2, Z.out.1, Z.out.2.1, Z.out.2.2.1⟩, Z.out.2.2.2, rfl⟩
    case round =>
      obtain ⟨n, s', hn, rfl, hmv, ho, hfin⟩ := hrel
      have X := hid (And.intro hmv (And.intro ho hfin))
      clear hmv ho hfin
      by_cases h3 : n < 14
      · obtain ⟨j, rfl⟩ : ∃ j, gk = j + 1 := ⟨gk - 1, by omega⟩
        obtain ⟨F3, a3, o3, f3⟩ := X.out.1
        have Y3 := hid (And.intro a3 (And.intro o3 f3))
        clear a3 o3 f3
        go_wp2_with fail
        refine (H.bitN _ F3 s' (partCtx n) _ (by unfold partCtx; omega) (partCtx_lt n) _ _ Y3.out.1 X.out.2.1 (by omega)).mono ?_
        rintro e w3 ⟨rfl, h3, ok3⟩
        have Z3 := hid (And.intro (Moved.step Y3.out.2.1 Y3.out.2.2 h3) ok3)
        clear h3 ok3
        cases hq3 : (M.bit s' (partCtx n) (decide ((n : Int) < kk))).1 with
        | true =>
          have Q3 := hid hq3
          clear hq3
          go_wp2_with fail
          obtain ⟨z1, z2⟩ := Z3.out
          go_roundg j
          case measure => omega
          case rel => exact ⟨n + 1, _, by omega, by go_num, z1, by rw [show lim + 6 + 3 * (n + 1) = lim + 6 + 3 * n + 3 by omega]; exact z2, by rw [← X.out.2.2, ones_yes (f := partCtx) Q3.out]⟩
        | false =>
          have Q3 := hid hq3
          clear hq3
          have e : M.ones partCtx kk 14 0 s2 = (n, (M.bit s' (partCtx n) (decide ((n : Int) < kk))).2) := by
            rw [← X.out.2.2, ones_no (f := partCtx) Q3.out]
          have EE := hid e
          clear e
          cases dn with
          | true =>
            go_wp2_with fail
            go_ret
            rw [PD.out, Q.out, EE.out]
            simp only [if_true]
            exact ⟨rfl, Z3.out.1⟩
          | false =>
            go_wp2_with fail
            go_ret
            rw [PD.out, Q.out, EE.out]
            simp only [if_true, Bool.false_eq_true, if_false]
            exact ⟨rfl, Z3.out.1⟩
      · obtain rfl : n = 14 := by omega
        obtain rfl : gk = 0 := by omega
        have e : M.ones partCtx kk 14 0 s2 = (14, s') := by
          rw [← X.out.2.2]; rfl
        have EE := hid e
        clear e
        cases dn with
        | true =>
          go_wp2_with fail
          go_ret
          rw [PD.out, Q.out, EE.out]
          simp only [if_true]
          exact ⟨rfl, X.out.1⟩
        | false =>
          go_wp2_with fail
          go_ret
          rw [PD.out, Q.out, EE.out]
          simp only [if_true, Bool.false_eq_true, if_false]
          exact ⟨rfl, X.out.1⟩
end
end Go.Proofs.YtkkgpdejmcpcpaaGreatDoor

