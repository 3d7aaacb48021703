/- Parts: XRSynA, XRSynB, XSynC. -/
import Derived.Test.YtkkgpdejmcpcpaaGreatDoorM25
import Derived.Test.YtkkgpdejmcpcpaaGreatDoorM01
import Derived.Test.YtkkgpdejmcpcpaaGreatDoorM02
import Derived.Test.YtkkgpdejmcpcpaaGreatDoorM20
/- Chapter 20: the document's parts, levels, kind. -/
namespace Go.Proofs.YtkkgpdejmcpcpaaGreatDoor
open Go.RowKit

theorem blk2R {W : World} {g : Nat} {t : TypeId} {a0 a1 : Value} (h : Blk W g t #[a0, a1]) : W.cell? ⟨g, 0, none⟩ = some a0 ∧ W.cell? ⟨g, 1, none⟩ = some a1 := ⟨(h.cell 0).trans rfl, (h.cell 1).trans rfl⟩
/-- An error without a path. -/
abbrev errA (c : Int) : Value := .agg #[.int .i64 c, .slice none 0 0]
set_option maxRecDepth 100000 in
set_option maxHeartbeats 1000000 in
theorem rlevels_any (x : Value) (l : List Int) (n : Nat) (z : Int) (hz : z = (n : Int)) (w : World) (hx : Nums w x l) (hn : n = 16 ∨ n = 64) :
    Calls Tryz.prog 62 #[x, .int .i64 z] w fun e w' => e = .returned (errA (levelsNo l n)) ∧ Below w.heap.size w w' := by
  obtain ⟨A, c, rfl, _⟩ := hx.form
  subst hz
  have hb1 : Below w.heap.size w (w.alloc (.cells #[.int .i64 0, .slice none 0 0] 46)) := (Below.refl _ _).alloc (Nat.le_refl _) _
  have P0 := hid (And.intro (Blk.new w 46 #[.int .i64 0, .slice none 0 0]) hb1)
  have hcase : (((l.length : Int) != (n : Int)) = true ∧ levelsNo l n = 14) ∨ (((l.length : Int) != (n : Int)) = false ∧ l.length = n ∧ l.any lvOut = true ∧ levelsNo l n = 3) ∨ (((l.length : Int) != (n : Int)) = false ∧ l.length = n ∧ l.any lvOut = false ∧ levelsNo l n = 0) := by
    unfold levelsNo
    by_cases h : l.length = n
    · have h1 : ((l.length : Int) != (n : Int)) = false := by rw [h]; simp
      rw [if_neg (fun k => k h)]
      cases hq : l.any lvOut
      · exact .inr (.inr ⟨h1, h, rfl, rfl⟩)
      · exact .inr (.inl ⟨h1, h, rfl, rfl⟩)
    · exact .inl ⟨by simp; omega, by rw [if_pos h]⟩
  rcases hcase with ⟨h1, h2⟩ | ⟨h1, hln, hq, h2⟩ | ⟨h1, hln, hq, h2⟩
  · rw [h2]
    clear hx h2 hb1
    go_enter Tryz.func62, Tryz.ntmps62
    go_wp2_with fail
    generalize w.alloc (.cells #[.int .i64 0, .slice none 0 0] 46) = w1 at *
    refine (fail_any _ _).mono ?_
    rintro e w3 ⟨rfl, hb3⟩
    have hP := P0.out.1.below hb3 P0.out.1.lt
    obtain ⟨e0, e1⟩ := blk2R hP
    have ef0 := hP.frozen 0
    have ef1 := hP.frozen 1
    obtain ⟨z0, z1⟩ := blk2R ((hP.put 0 (.int .i64 14)).put 1 (.slice none 0 0))
    have B3 := hid (P0.out.2.trans (hb3.mono P0.out.2.size))
    clear hb3 hP
    go_wp2_with fail
    exact bodyPost_ret (v := errA 14) (by simp [errA, results, Tryz.results62, go_sem, z0, z1]) rfl ⟨rfl, (B3.out.setCell (p := ⟨w.heap.size, 0, none⟩) (Nat.le_refl _) _).setCell (p := ⟨w.heap.size, 1, none⟩) (Nat.le_refl _) _⟩
  · have HWI := hid (within_any _ l (-16320) 16320 _ (hx.below hb1) (by omega))
    rw [within_out l, hq] at HWI
    rw [h2]
    clear hx h2 hb1 hq hln
    go_enter Tryz.func62, Tryz.ntmps62
    go_wp2_with fail
    generalize w.alloc (.cells #[.int .i64 0, .slice none 0 0] 46) = w1 at *
    refine HWI.out.mono ?_
    rintro e w2 ⟨rfl, rfl⟩
    go_wp2_with fail
    refine (fail_any _ _).mono ?_
    rintro e w3 ⟨rfl, hb3⟩
    have hP := P0.out.1.below hb3 P0.out.1.lt
    obtain ⟨e0, e1⟩ := blk2R hP
    have ef0 := hP.frozen 0
    have ef1 := hP.frozen 1
    obtain ⟨z0, z1⟩ := blk2R ((hP.put 0 (.int .i64 3)).put 1 (.slice none 0 0))
    have B3 := hid (P0.out.2.trans (hb3.mono P0.out.2.size))
    clear hb3 hP
    go_wp2_with fail
    exact bodyPost_ret (v := errA 3) (by simp [errA, results, Tryz.results62, go_sem, z0, z1]) rfl ⟨rfl, (B3.out.setCell (p := ⟨w.heap.size, 0, none⟩) (Nat.le_refl _) _).setCell (p := ⟨w.heap.size, 1, none⟩) (Nat.le_refl _) _⟩
  · have HWI := hid (within_any _ l (-16320) 16320 _ (hx.below hb1) (by omega))
    rw [within_out l, hq] at HWI
    rw [h2]
    have B1 := hid hb1
    clear hx h2 hb1 hq hln
    go_enter Tryz.func62, Tryz.ntmps62
    go_wp2_with fail
    refine HWI.out.mono ?_
    rintro e w2 ⟨rfl, rfl⟩
    go_wp2_with fail
    exact bodyPost_ret (v := errA 0) (by simp [errA, results, Tryz.results62, go_sem]) rfl ⟨rfl, B1.out⟩
theorem all_modes (l : List Int) : (l.all fun v => decide ((0 : Int) ≤ v) && decide (v ≤ (3 : Int))) = l.all inMode := rfl
set_option maxRecDepth 100000 in
set_option maxHeartbeats 2000000 in
theorem rparts_tell (vv : Value) (s : SqS) (m0 m1 m2 m3 : Int) (lv v0 v1 v2 v3 : Value) (hv : SqNum vv s m0 m1 m2 m3 lv v0 v1 v2 v3) (w : World) :
    Calls Tryz.prog 61 #[vv] w fun e w' => e = .returned (.bool (boundsS s)) ∧ Below w.heap.size w w' := by
  obtain ⟨rfl, hm⟩ := hv
  unfold sqV
  have BD := hid (show boundsS s = if s.kind = 1 then (decide (-15 ≤ s.x) && decide (s.x ≤ 15)) && (decide (-15 ≤ s.y) && decide (s.y ≤ 15)) else if s.kind = 2 then decide (0 ≤ s.mode) && decide (s.mode ≤ 3) else if s.kind = 3 then s.modes.all inMode else true from rfl)
  rw [hm] at BD
  generalize boundsS s = q at *
  generalize s.kind = k at *
  generalize s.mode = mode at *
  generalize s.x = x at *
  generalize s.y = y at *
  have B1 := hid (show Below w.heap.size w (w.alloc (.cells #[.int .i64 k, .int .i64 mode, .int .i64 m0, .int .i64 m1, .int .i64 m2, .int .i64 m3, .int .i64 x, .int .i64 y, lv, v0, v1, v2, v3] 42)) from (Below.refl _ _).alloc (Nat.le_refl _) _)
  have HK := hid (Blk.new w 42 #[.int .i64 k, .int .i64 mode, .int .i64 m0, .int .i64 m1, .int .i64 m2, .int .i64 m3, .int .i64 x, .int .i64 y, lv, v0, v1, v2, v3])
  have hc : k = 1 ∨ k = 2 ∨ k = 3 ∨ (¬ k = 1 ∧ ¬ k = 2 ∧ ¬ k = 3) := by omega
  rcases hc with rfl | rfl | rfl | ⟨h1, h2, h3⟩
  · have ha : decide (-15 ≤ x) = true ∨ decide (-15 ≤ x) = false := by cases decide (-15 ≤ x) <;> simp
    have hb : decide (x ≤ 15) = true ∨ decide (x ≤ 15) = false := by cases decide (x ≤ 15) <;> simp
    have hd : decide (-15 ≤ y) = true ∨ decide (-15 ≤ y) = false := by cases decide (-15 ≤ y) <;> simp
    rcases ha with ha | ha <;> rcases hb with hb | hb <;> rcases hd with hd | hd
    all_goals
      go_enter Tryz.func61, Tryz.ntmps61
      go_wp2_with fail
      go_ret
      refine ⟨?_, B1.out.alloc B1.out.size _⟩
      rw [BD.out]
      simp [ha, hb, hd]
  · have ha : decide (0 ≤ mode) = true ∨ decide (0 ≤ mode) = false := by cases decide (0 ≤ mode) <;> simp
    rcases ha with ha | ha
    all_goals
      go_enter Tryz.func61, Tryz.ntmps61
      go_wp2_with fail
      go_ret
      refine ⟨?_, B1.out⟩
      rw [BD.out]
      simp [ha]
  · go_enter Tryz.func61, Tryz.ntmps61
    go_wp2_with fail
    refine (within_any _ [m0, m1, m2, m3] 0 3 _ (nums_in_blk HK.out (off := 2) (c := 4) (fun i v hv => ?_) (by simp)) (by simp)).mono ?_
    · match i, hv with
      | 0, hv => simpa using hv
      | 1, hv => simpa using hv
      | 2, hv => simpa using hv
      | 3, hv => simpa using hv
      | i + 4, hv => simp at hv
    rintro e w2 ⟨rfl, rfl⟩
    rw [all_modes]
    have hq : q = [m0, m1, m2, m3].all inMode := by rw [BD.out]; simp
    rw [← hq]
    clear hq
    go_wp2_with fail
    go_ret
    exact ⟨rfl, B1.out⟩
  · go_enter Tryz.func61, Tryz.ntmps61
    have d1 : (k == 1) = false := by simp; omega
    have d2 : (k == 2) = false := by simp; omega
    have d3 : (k == 3) = false := by simp; omega
    go_wp2_with fail
    go_ret
    refine ⟨?_, B1.out⟩
    rw [BD.out]
    simp [h1, h2, h3]
section
variable {σ : Type} {M : Mach σ} {At : World → (Nat → Prop) → σ → Prop} {Ok : σ → Nat → Prop}
set_option maxRecDepth 100000 in
set_option maxHeartbeats 1000000 in
theorem rhead_any (b : Nat) (H : IsCoder M 65 64 (.pointer (some ⟨b, 0, none⟩)) At Ok) (key : Bool) (k : Int) (s : σ) (w : World) (F : Nat → Prop) (lim : Nat) (hs : At w F s) (ho : Ok s lim) (hl : lim + 100 ≤ 1000000000) :
    Calls Tryz.prog 39 #[.pointer (some ⟨b, 0, none⟩), .bool key, .int .i64 k] w (Coded At w F (M.run (headA key k) s)) := by
  cases key with
  | false =>
    have HK := hid (rkind_any b H k s w F lim hs ho hl)
    have hr : M.run (headA false k) s = M.kind k s := run_kind M k s
    rw [hr]
    clear hr hs ho
    go_enter Tryz.func39, Tryz.ntmps39
    go_wp2_with fail
    refine HK.out.mono ?_
    rintro e w2 ⟨rfl, hm⟩
    have HM := hid hm
    clear hm
    go_wp2_with fail
    go_ret
    exact ⟨rfl, HM.out⟩
  | true =>
    have HF := hid (H.flatN w F s (k == 3) lim hs ho (by omega))
    have hr := hid (show M.run (headA true k) s = (if (M.flat s (k == 3)).1 = true then 3 else 2, (M.flat s (k == 3)).2) from rfl)
    generalize M.run (headA true k) s = R at *
    clear hs ho
    go_enter Tryz.func39, Tryz.ntmps39
    go_wp2_with fail
    refine HF.out.mono ?_
    rintro e w2 ⟨rfl, hm, _⟩
    have HM := hid hm
    clear hm
    cases hq : (M.flat s (k == 3)).1 with
    | true =>
      have HQ := hid hq
      clear hq
      go_wp2_with fail
      go_ret
      have hR : R = (3, (M.flat s (k == 3)).2) := by rw [hr.out, HQ.out]; rfl
      rw [hR]
      exact ⟨rfl, HM.out⟩
    | false =>
      have HQ := hid hq
      clear hq
      go_wp2_with fail
      go_ret
      have hR : R = (2, (M.flat s (k == 3)).2) := by rw [hr.out, HQ.out]; rfl
      rw [hR]
      exact ⟨rfl, HM.out⟩
end
end Go.Proofs.YtkkgpdejmcpcpaaGreatDoor

/- Chapter 20: the document's asks. -/
namespace Go.Proofs.YtkkgpdejmcpcpaaGreatDoor
open Go.RowKit

/-- The square's block, the answer's block. -/
structure AskW (w W : World) (cs : Array Value) : Prop where
  sq : Blk W w.heap.size 42 cs
  er : Blk W (w.heap.size + 1) 46 #[.int .i64 0, .slice none 0 0]
  b : Below w.heap.size w W
theorem AskW.new (w : World) (cs : Array Value) : AskW w ((w.alloc (.cells cs 42)).alloc (.cells #[.int .i64 0, .slice none 0 0] 46)) cs :=
  ⟨(Blk.new _ _ _).alloc _, Blk.newAt' _ _ _ (by simp), ((Below.refl _ _).alloc (Nat.le_refl _) _).alloc (by simp) _⟩
theorem AskW.step {w W W' : World} {cs : Array Value} (h : AskW w W cs) (hb : Below W.heap.size W W') : AskW w W' cs :=
  ⟨h.sq.below hb h.sq.lt, h.er.below hb h.er.lt, h.b.trans (hb.mono h.b.size)⟩
theorem AskW.cells {w W : World} {cs : Array Value} (h : AskW w W cs) : (W.cell? ⟨w.heap.size + 1, 0, none⟩ = some (.int .i64 0) ∧ W.cell? ⟨w.heap.size + 1, 1, none⟩ = some (.slice none 0 0)) ∧ W.frozen? ⟨w.heap.size + 1, 0, none⟩ = false ∧ W.frozen? ⟨w.heap.size + 1, 1, none⟩ = false :=
  ⟨blk2R h.er, h.er.frozen 0, h.er.frozen 1⟩
theorem AskW.fin {w W : World} {cs : Array Value} (h : AskW w W cs) (c : Int) :
    (((W.setCell ⟨w.heap.size + 1, 0, none⟩ (.int .i64 c)).setCell ⟨w.heap.size + 1, 1, none⟩ (.slice none 0 0)).cell? ⟨w.heap.size + 1, 0, none⟩ = some (.int .i64 c) ∧ ((W.setCell ⟨w.heap.size + 1, 0, none⟩ (.int .i64 c)).setCell ⟨w.heap.size + 1, 1, none⟩ (.slice none 0 0)).cell? ⟨w.heap.size + 1, 1, none⟩ = some (.slice none 0 0)) ∧ Below w.heap.size w ((W.setCell ⟨w.heap.size + 1, 0, none⟩ (.int .i64 c)).setCell ⟨w.heap.size + 1, 1, none⟩ (.slice none 0 0)) :=
  ⟨blk2R ((h.er.put 0 _).put 1 _), (h.b.setCell (p := ⟨w.heap.size + 1, 0, none⟩) (Nat.le_succ _) _).setCell (p := ⟨w.heap.size + 1, 1, none⟩) (Nat.le_succ _) _⟩
set_option maxRecDepth 100000 in
set_option maxHeartbeats 4000000 in
theorem rasks_any (key : Bool) (vv : Value) (s : SqS) (m0 m1 m2 m3 : Int) (lv v0 v1 v2 v3 : Value) (l0 l1 l2 l3 : List Int) (w : World) (hv : SqArg w vv s m0 m1 m2 m3 lv v0 v1 v2 v3 l0 l1 l2 l3) :
    Calls Tryz.prog 37 #[.bool key, vv] w fun e w' => e = .returned (errA (askNo key s)) ∧ Below w.heap.size w w' := by
  have HB := hid (fun W => rparts_tell vv s m0 m1 m2 m3 lv v0 v1 v2 v3 hv.num W)
  have hn := hv.num.v
  have hsm := hv.sm
  have SA := hid hv
  clear hv
  subst hn
  have AK := hid (show askNo key s = if s.kind < 0 ∨ 3 < s.kind ∨ (key = true ∧ s.kind < 2) then 13 else if boundsS s = false then 3 else if s.kind = 1 ∨ s.kind = 2 then levelsNo s.large 64 else if s.kind = 3 then smallNo s.small else 0 from rfl)
  rw [hsm] at AK
  clear hsm
  unfold sqV at HB ⊢
  generalize askNo key s = q at *
  generalize boundsS s = bo at *
  generalize s.kind = k at *
  generalize s.mode = mode at *
  generalize s.x = x at *
  generalize s.y = y at *
  have AW := hid (AskW.new w #[.int .i64 k, .int .i64 mode, .int .i64 m0, .int .i64 m1, .int .i64 m2, .int .i64 m3, .int .i64 x, .int .i64 y, lv, v0, v1, v2, v3])
  have hc : (decide (k < 0) = true ∧ k < 0) ∨ (decide (k < 0) = false ∧ decide (3 < k) = true ∧ 3 < k) ∨ (decide (k < 0) = false ∧ decide (3 < k) = false ∧ 0 ≤ k ∧ k ≤ 3) := by
    by_cases h1 : k < 0
    · exact .inl ⟨by simpa using h1, h1⟩
    · by_cases h2 : 3 < k
      · exact .inr (.inl ⟨by simpa using h1, by simpa using h2, h2⟩)
      · exact .inr (.inr ⟨by simpa using h1, by simpa using h2, by omega, by omega⟩)
  have hbad : k < 0 ∨ 3 < k ∨ (key = true ∧ k < 2) → Hid (q = 13) := fun h => hid (by rw [AK.out, if_pos h])
  have hgood : ¬ (k < 0 ∨ 3 < k ∨ (key = true ∧ k < 2)) → Hid (q = if bo = false then 3 else if k = 1 ∨ k = 2 then levelsNo s.large 64 else if k = 3 then smallNo [l0, l1, l2, l3] else 0) := fun h => hid (by rw [AK.out, if_neg h])
  clear AK
  rcases hc with ⟨d1, h1⟩ | ⟨d1, d2, h1⟩ | ⟨d1, d2, h0, h3⟩
  · have Q := hbad (.inl h1)
    clear hbad hgood h1
    go_enter Tryz.func37, Tryz.ntmps37
    go_wp2_with fail
    generalize ((w.alloc _).alloc _ : World) = w1 at *
    refine (fail_any _ _).mono ?_
    rintro e w3 ⟨rfl, hb3⟩
    have A1 := hid (AW.out.step hb3)
    obtain ⟨⟨e0, e1⟩, f0, f1⟩ := A1.out.cells
    clear hb3
    go_wp2_with fail
    obtain ⟨⟨z0, z1⟩, hb⟩ := A1.out.fin 13
    rw [Q.out]
    exact bodyPost_ret (v := errA 13) (by simp [errA, results, Tryz.results37, go_sem, z0, z1]) rfl ⟨rfl, hb⟩
  · have Q := hbad (.inr (.inl h1))
    clear hbad hgood h1
    go_enter Tryz.func37, Tryz.ntmps37
    go_wp2_with fail
    generalize ((w.alloc _).alloc _ : World) = w1 at *
    refine (fail_any _ _).mono ?_
    rintro e w3 ⟨rfl, hb3⟩
    have A1 := hid (AW.out.step hb3)
    obtain ⟨⟨e0, e1⟩, f0, f1⟩ := A1.out.cells
    clear hb3
    go_wp2_with fail
    obtain ⟨⟨z0, z1⟩, hb⟩ := A1.out.fin 13
    rw [Q.out]
    exact bodyPost_ret (v := errA 13) (by simp [errA, results, Tryz.results37, go_sem, z0, z1]) rfl ⟨rfl, hb⟩
  · have hkk : (key = true ∧ decide (k < 2) = true ∧ k < 2) ∨ ((key = true ∧ decide (k < 2) = false ∨ key = false) ∧ ¬ (key = true ∧ k < 2)) := by
      cases key
      · exact .inr ⟨.inr rfl, fun h => by simp at h⟩
      · by_cases h : k < 2
        · exact .inl ⟨rfl, by simpa using h, h⟩
        · exact .inr ⟨.inl ⟨rfl, by simpa using h⟩, fun h2 => h h2.2⟩
    rcases hkk with ⟨rfl, d3, h4⟩ | ⟨hkey, h4⟩
    · have Q := hbad (.inr (.inr ⟨rfl, h4⟩))
      clear hbad hgood h0 h3 h4
      go_enter Tryz.func37, Tryz.ntmps37
      go_wp2_with fail
      generalize ((w.alloc _).alloc _ : World) = w1 at *
      refine (fail_any _ _).mono ?_
      rintro e w3 ⟨rfl, hb3⟩
      have A1 := hid (AW.out.step hb3)
      obtain ⟨⟨e0, e1⟩, f0, f1⟩ := A1.out.cells
      clear hb3
      go_wp2_with fail
      obtain ⟨⟨z0, z1⟩, hb⟩ := A1.out.fin 13
      rw [Q.out]
      exact bodyPost_ret (v := errA 13) (by simp [errA, results, Tryz.results37, go_sem, z0, z1]) rfl ⟨rfl, hb⟩
    · have Q := hgood (by
        rintro (h | h | h)
        · omega
        · omega
        · exact h4 h)
      clear hbad hgood h4
      rcases hkey with ⟨rfl, d3⟩ | rfl
      all_goals
        go_enter Tryz.func37, Tryz.ntmps37
        go_wp2_with fail
        generalize ((w.alloc _).alloc _ : World) = w1 at *
        refine (HB.out _).mono ?_
        rintro e w2 ⟨rfl, hb2⟩
        have A2 := hid (AW.out.step hb2)
        have SA2 := hid (SA.out.below A2.out.b)
        obtain ⟨⟨e0, e1⟩, f0, f1⟩ := A2.out.cells
        clear hb2
        cases bo with
        | false =>
          have Q3 := hid (show q = 3 by rw [Q.out]; rfl)
          go_wp2_with fail
          refine (fail_any _ _).mono ?_
          rintro e w3 ⟨rfl, hb3⟩
          have A3 := hid (A2.out.step hb3)
          obtain ⟨⟨e2, e3⟩, f2, f3⟩ := A3.out.cells
          clear hb3
          go_wp2_with fail
          obtain ⟨⟨z0, z1⟩, hb⟩ := A3.out.fin 3
          rw [Q3.out]
          exact bodyPost_ret (v := errA 3) (by simp [errA, results, Tryz.results37, go_sem, z0, z1]) rfl ⟨rfl, hb⟩
        | true =>
          have QQ := hid (show q = if k = 1 ∨ k = 2 then levelsNo s.large 64 else if k = 3 then smallNo [l0, l1, l2, l3] else 0 by rw [Q.out]; rfl)
          clear Q
          have CELLS : Hid (∀ W, AskW w W #[.int .i64 k, .int .i64 mode, .int .i64 m0, .int .i64 m1, .int .i64 m2, .int .i64 m3, .int .i64 x, .int .i64 y, lv, v0, v1, v2, v3] → W.cell? ⟨w.heap.size, 0, none⟩ = some (.int .i64 k) ∧ W.cell? ⟨w.heap.size, 8, none⟩ = some lv ∧ W.cell? ⟨w.heap.size, 9, none⟩ = some v0 ∧ W.cell? ⟨w.heap.size, 10, none⟩ = some v1 ∧ W.cell? ⟨w.heap.size, 11, none⟩ = some v2 ∧ W.cell? ⟨w.heap.size, 12, none⟩ = some v3) := hid (fun W h => ⟨by simpa using h.sq.cell 0, by simpa using h.sq.cell 8, by simpa using h.sq.cell 9, by simpa using h.sq.cell 10, by simpa using h.sq.cell 11, by simpa using h.sq.cell 12⟩)
          obtain ⟨c0, c8, c9, c10, c11, c12⟩ := CELLS.out w2 A2.out
          have hc : k = 0 ∨ k = 1 ∨ k = 2 ∨ k = 3 := by omega
          clear d1 d2 h0 h3
          rcases hc with rfl | rfl | rfl | rfl
          · have Q3 := hid (show q = 0 by rw [QQ.out]; rfl)
            clear QQ
            go_wp2_with fail
            go_loopg [5] 0 (fun j iv wr => iv = .int .i64 0 ∧ AskW w wr #[.int .i64 0, .int .i64 mode, .int .i64 m0, .int .i64 m1, .int .i64 m2, .int .i64 m3, .int .i64 x, .int .i64 y, lv, v0, v1, v2, v3])
            case atStart => exact ⟨rfl, A2.out⟩
            case round =>
              obtain ⟨rfl, hA⟩ := hrel
              have AR := hid hA
              clear hA c0 c8 c9 c10 c11 c12 e0 e1 f0 f1
              obtain ⟨c0, c8, c9, c10, c11, c12⟩ := CELLS.out wr AR.out
              obtain ⟨⟨e0, e1⟩, f0, f1⟩ := AR.out.cells
              go_wp2_with fail
              obtain ⟨⟨z0, z1⟩, hb⟩ := AR.out.fin 0
              rw [Q3.out]
              exact bodyPost_ret (v := errA 0) (by simp [errA, results, Tryz.results37, go_sem, z0, z1]) rfl ⟨rfl, hb⟩
          · have Q3 := hid (show q = levelsNo s.large 64 by rw [QQ.out]; rfl)
            clear QQ
            go_wp2_with fail
            refine (rlevels_any lv s.large 64 64 rfl _ SA2.out.lg (.inr rfl)).mono ?_
            rintro e w3 ⟨rfl, hb3⟩
            have A3 := hid (A2.out.step hb3)
            obtain ⟨⟨e2, e3⟩, f2, f3⟩ := A3.out.cells
            clear hb3
            rw [← Q3.out]
            go_wp2_with fail
            obtain ⟨⟨z0, z1⟩, hb⟩ := A3.out.fin q
            skip
            exact bodyPost_ret (v := errA q) (by simp [errA, results, Tryz.results37, go_sem, z0, z1]) rfl ⟨rfl, hb⟩
          · have Q3 := hid (show q = levelsNo s.large 64 by rw [QQ.out]; rfl)
            clear QQ
            go_wp2_with fail
            refine (rlevels_any lv s.large 64 64 rfl _ SA2.out.lg (.inr rfl)).mono ?_
            rintro e w3 ⟨rfl, hb3⟩
            have A3 := hid (A2.out.step hb3)
            obtain ⟨⟨e2, e3⟩, f2, f3⟩ := A3.out.cells
            clear hb3
            rw [← Q3.out]
            go_wp2_with fail
            obtain ⟨⟨z0, z1⟩, hb⟩ := A3.out.fin q
            skip
            exact bodyPost_ret (v := errA q) (by simp [errA, results, Tryz.results37, go_sem, z0, z1]) rfl ⟨rfl, hb⟩
          · have Q3 := hid (show q = smallNo [l0, l1, l2, l3] by rw [QQ.out]; rfl)
            clear QQ
            go_wp2_with fail
            go_loopg [5] 4 (fun j iv wr => ∃ i : Nat, i + j = 4 ∧ iv = .int .i64 i ∧ AskW w wr #[.int .i64 3, .int .i64 mode, .int .i64 m0, .int .i64 m1, .int .i64 m2, .int .i64 m3, .int .i64 x, .int .i64 y, lv, v0, v1, v2, v3] ∧ Below w2.heap.size w2 wr ∧ q = smallNo ([l0, l1, l2, l3].drop i))
            case atStart => exact ⟨0, by omega, rfl, A2.out, Below.refl _ _, Q3.out⟩
            case round =>
              obtain ⟨i, hij, rfl, hA, hB, hq⟩ := hrel
              have HQ := hid (And.intro hij hq)
              have AR := hid hA
              have BR := hid hB
              have hci : i = 4 ∨ i = 0 ∨ i = 1 ∨ i = 2 ∨ i = 3 := by omega
              clear hij hq Q3 hA hB c0 c8 c9 c10 c11 c12 e0 e1 f0 f1
              obtain ⟨c0, c8, c9, c10, c11, c12⟩ := CELLS.out wr AR.out
              obtain ⟨⟨e0, e1⟩, f0, f1⟩ := AR.out.cells
              have step : ∀ (i : Nat) (l : List Int) (r : List (List Int)), [l0, l1, l2, l3].drop i = l :: r → [l0, l1, l2, l3].drop (i + 1) = r → q = smallNo ([l0, l1, l2, l3].drop i) → (levelsNo l 16 = 0 → q = smallNo ([l0, l1, l2, l3].drop (i + 1))) ∧ (levelsNo l 16 ≠ 0 → q = levelsNo l 16) := by
                intro i l r e1 e2 e3
                rw [e1] at e3
                rw [e2]
                unfold smallNo at e3
                constructor
                · intro h
                  rw [if_neg (fun k => k h)] at e3
                  exact e3
                · intro h
                  rw [if_pos h] at e3
                  exact e3
              rcases hci with rfl | rfl | rfl | rfl | rfl
              · have Q4 := hid (show q = 0 from HQ.out.2)
                go_wp2_with fail
                obtain ⟨⟨z0, z1⟩, hb⟩ := AR.out.fin 0
                rw [Q4.out]
                exact bodyPost_ret (v := errA 0) (by simp [errA, results, Tryz.results37, go_sem, z0, z1]) rfl ⟨rfl, hb⟩
              all_goals
                first
                  | (have ST := hid (step 0 l0 [l1, l2, l3] rfl rfl HQ.out.2); have HL := hid (rlevels_any v0 l0 16 16 rfl wr (SA2.out.n0.below BR.out) (.inl rfl)); have hl : levelsNo l0 16 = 0 ∨ levelsNo l0 16 ≠ 0 := by omega)
                  | (have ST := hid (step 1 l1 [l2, l3] rfl rfl HQ.out.2); have HL := hid (rlevels_any v1 l1 16 16 rfl wr (SA2.out.n1.below BR.out) (.inl rfl)); have hl : levelsNo l1 16 = 0 ∨ levelsNo l1 16 ≠ 0 := by omega)
                  | (have ST := hid (step 2 l2 [l3] rfl rfl HQ.out.2); have HL := hid (rlevels_any v2 l2 16 16 rfl wr (SA2.out.n2.below BR.out) (.inl rfl)); have hl : levelsNo l2 16 = 0 ∨ levelsNo l2 16 ≠ 0 := by omega)
                  | (have ST := hid (step 3 l3 [] rfl rfl HQ.out.2); have HL := hid (rlevels_any v3 l3 16 16 rfl wr (SA2.out.n3.below BR.out) (.inl rfl)); have hl : levelsNo l3 16 = 0 ∨ levelsNo l3 16 ≠ 0 := by omega)
                rcases hl with hl | hl
                · have Q5 := hid (ST.out.1 hl)
                  rw [hl] at HL
                  clear ST step hl
                  go_wp2_with fail
                  refine HL.out.mono ?_
                  rintro e w3 ⟨rfl, hb3⟩
                  have B3 := hid hb3
                  clear hb3
                  unfold errA
                  go_wp2_with fail
                  refine (err_ok 0 (.slice none 0 0) _).mono ?_
                  rintro e w4 ⟨rfl, h4⟩
                  have B4 := hid (B3.out.trans ((((Below.refl _ _).alloc (Nat.le_refl _) (.cells #[.int .i64 0, .slice none 0 0] 46)).trans (h4.mono (by simp))).mono B3.out.size))
                  clear h4
                  go_wp2_with fail
                  go_roundg (gk - 1)
                  case measure => have := HQ.out.1; omega
                  case rel => exact ⟨_, by have := HQ.out.1; omega, by go_num, AR.out.step B4.out, BR.out.trans (B4.out.mono BR.out.size), Q5.out⟩
                · have Q5 := hid (ST.out.2 hl)
                  rw [← Q5.out] at HL
                  have hz : (q == 0) = false := by rw [Q5.out]; simpa using hl
                  clear ST step hl Q5
                  go_wp2_with fail
                  refine HL.out.mono ?_
                  rintro e w3 ⟨rfl, hb3⟩
                  have B3 := hid hb3
                  clear hb3
                  unfold errA
                  go_wp2_with fail
                  refine (err_ok q (.slice none 0 0) _).mono ?_
                  rintro e w4 ⟨rfl, h4⟩
                  have B4 := hid (B3.out.trans ((((Below.refl _ _).alloc (Nat.le_refl _) (.cells #[.int .i64 q, .slice none 0 0] 46)).trans (h4.mono (by simp))).mono B3.out.size))
                  have A4 := hid (AR.out.step B4.out)
                  obtain ⟨g0, g1⟩ := blk2R ((Blk.new w3 46 #[.int .i64 q, .slice none 0 0]).below h4 (by simp))
                  obtain ⟨⟨e2, e3⟩, f2, f3⟩ := A4.out.cells
                  clear h4
                  go_wp2_with fail
                  obtain ⟨⟨z0, z1⟩, hb⟩ := A4.out.fin q
                  skip
                  exact bodyPost_ret (v := errA q) (by simp [errA, results, Tryz.results37, go_sem, z0, z1]) rfl ⟨rfl, hb⟩
end Go.Proofs.YtkkgpdejmcpcpaaGreatDoor

/- Chapter 20: what the walk of a square's parts holds. -/
namespace Go.Proofs.YtkkgpdejmcpcpaaGreatDoor
open Go.RowKit
section
variable {σ : Type} {M : Mach σ} {fB fF : FuncId} {me : Value} {At : World → (Nat → Prop) → σ → Prop} {Ok : σ → Nat → Prop} {w0 W W' : World} {s s' : σ} {F0 F F' : Nat → Prop} {ob bb : Nat} {ty tb : TypeId}
/-- A list that was told: none, or a block of the call's own. -/
def Lst (w0 : World) (v : Value) (l : List Int) (W : World) (F : Nat → Prop) : Prop := (v = nilS ∧ l = []) ∨ ∃ g, v = .slice (some ⟨g, 0, none⟩) l.length l.length ∧ BOff w0 g l W F
variable {v : Value} {l : List Int}
theorem Lst.moved (h : Lst w0 v l W F) (o : Only F W W') (f : ∀ k, F' k → F k ∨ W.heap.size ≤ k) : Lst w0 v l W' F' := by
  rcases h with h | ⟨g, h1, h2⟩
  · exact .inl h
  · exact .inr ⟨g, h1, h2.moved o f⟩
theorem Lst.below (h : Lst w0 v l W F) (hb : Below W.heap.size W W') : Lst w0 v l W' F := by
  rcases h with h | ⟨g, h1, h2⟩
  · exact .inl h
  · exact .inr ⟨g, h1, h2.below hb⟩
theorem Lst.put (h : Lst w0 v l W F) (hob : ob < w0.heap.size) (i : Nat) (u : Value) : Lst w0 v l (W.setCell ⟨ob, i, none⟩ u) F := by
  rcases h with h | ⟨g, h1, h2⟩
  · exact .inl h
  · exact .inr ⟨g, h1, ⟨h2.b.far (p := ⟨ob, i, none⟩) (by show g ≠ ob; have := h2.lo; omega) _, h2.f, h2.lo⟩⟩
theorem Lst.earlier {w1 : World} (h : Lst w0 v l W F) (hs : w1.heap.size ≤ w0.heap.size) : Lst w1 v l W F := by
  rcases h with h | ⟨g, h1, h2⟩
  · exact .inl h
  · exact .inr ⟨g, h1, ⟨h2.b, h2.f, Nat.le_trans hs h2.lo⟩⟩
theorem Lst.nums (h : Lst w0 v l W F) : Nums W v l := by
  rcases h with ⟨rfl, rfl⟩ | ⟨g, rfl, h2⟩
  · exact ⟨none, 0, rfl, Nat.le_refl _, fun h => absurd rfl h⟩
  · exact nums_blk h2.b rfl
theorem Lst.nil : Lst w0 nilS [] W F := .inl ⟨rfl, rfl⟩
/-- The coder, the square that is given in its box, the square that is told, lists. -/
structure PQ (At : World → (Nat → Prop) → σ → Prop) (w1 : World) (F0 : Nat → Prop) (ob bb : Nat) (ty tb : TypeId) (k0 mode0 : Int) (ms0 : List Int) (x0 y0 : Int) (lv0 : Value) (vs0 : List Value) (L D : List (Value × List Int))
    (k mode : Int) (ms : List Int) (x y : Int) (lv : Value) (vs : List Value) (s : σ) (W : World) (F : Nat → Prop) : Prop where
  p : PW At w1 F0 ob s W F
  box : SqBlk W bb tb k0 mode0 ms0 x0 y0 lv0 vs0
  bF : ¬ F bb
  bo : bb ≠ ob
  blt : bb < w1.heap.size
  out : SqBlk W ob ty k mode ms x y lv vs
  ls : ∀ p ∈ L, LOff p.1 p.2 W F ob
  told : ∀ p ∈ D, Lst w1 p.1 p.2 W F
variable {w1 : World} {k0 mode0 x0 y0 k mode x y k' mode' x' y' : Int} {ms0 ms ms' : List Int} {lv0 lv lv' : Value} {vs0 vs vs' : List Value} {L D : List (Value × List Int)}
theorem PQ.code (h : PQ At w1 F0 ob bb ty tb k0 mode0 ms0 x0 y0 lv0 vs0 L D k mode ms x y lv vs s W F) (c : CW At W F s' W' F') : PQ At w1 F0 ob bb ty tb k0 mode0 ms0 x0 y0 lv0 vs0 L D k mode ms x y lv vs s' W' F' :=
  ⟨h.p.code c, h.box.keep c.o h.bF, fun hF => by
    rcases c.f bb hF with e | e
    · exact h.bF e
    · have := h.box.lt; omega, h.bo, h.blt, h.out.keep c.o h.p.n, fun p hp => (h.ls p hp).code c, fun p hp => (h.told p hp).moved c.o c.f⟩
theorem PQ.moved (h : PQ At w1 F0 ob bb ty tb k0 mode0 ms0 x0 y0 lv0 vs0 L D k mode ms x y lv vs s W F) (hm : Moved At W F s' W') : ∃ F', PQ At w1 F0 ob bb ty tb k0 mode0 ms0 x0 y0 lv0 vs0 L D k mode ms x y lv vs s' W' F' := by
  obtain ⟨F', c⟩ := CW.of_moved hm
  exact ⟨F', h.code c⟩
theorem PQ.below (H : IsCoder M fB fF me At Ok) (h : PQ At w1 F0 ob bb ty tb k0 mode0 ms0 x0 y0 lv0 vs0 L D k mode ms x y lv vs s W F) (hb : Below W.heap.size W W') : PQ At w1 F0 ob bb ty tb k0 mode0 ms0 x0 y0 lv0 vs0 L D k mode ms x y lv vs s W' F :=
  ⟨h.p.below H hb, h.box.below hb, h.bF, h.bo, h.blt, h.out.below hb, fun p hp => (h.ls p hp).below hb, fun p hp => (h.told p hp).below hb⟩
theorem PQ.put (H : IsCoder M fB fF me At Ok) (h : PQ At w1 F0 ob bb ty tb k0 mode0 ms0 x0 y0 lv0 vs0 L D k mode ms x y lv vs s W F) (i : Nat) (u : Value) (ho : SqBlk (W.setCell ⟨ob, i, none⟩ u) ob ty k' mode' ms' x' y' lv' vs') :
    PQ At w1 F0 ob bb ty tb k0 mode0 ms0 x0 y0 lv0 vs0 L D k' mode' ms' x' y' lv' vs' s (W.setCell ⟨ob, i, none⟩ u) F :=
  ⟨h.p.put H i u, h.box.far (p := ⟨ob, i, none⟩) h.bo u, h.bF, h.bo, h.blt, ho, fun p hp => (h.ls p hp).put i u, fun p hp => (h.told p hp).put h.p.b i u⟩
theorem PQ.add (h : PQ At w1 F0 ob bb ty tb k0 mode0 ms0 x0 y0 lv0 vs0 L D k mode ms x y lv vs s W F) (hl : Lst w1 v l W F) : PQ At w1 F0 ob bb ty tb k0 mode0 ms0 x0 y0 lv0 vs0 L ((v, l) :: D) k mode ms x y lv vs s W F :=
  ⟨h.p, h.box, h.bF, h.bo, h.blt, h.out, h.ls, fun p hp => by
    rcases List.mem_cons.1 hp with rfl | hp
    · exact hl
    · exact h.told p hp⟩
/-- A square that is told, in its block. -/
def SqTold (w0 W : World) (F : Nat → Prop) (ob : Nat) (ty : TypeId) (t : SqS) : Prop :=
  ∃ lv vs, SqBlk W ob ty t.kind t.mode t.modes t.x t.y lv vs ∧ Lst w0 lv t.large W F ∧ ∀ j, j < 4 → Lst w0 (vs.getD j nilS) (t.small.getD j []) W F
def PartsRes (M : Mach σ) (At : World → (Nat → Prop) → σ → Prop) (ob : Nat) (ty : TypeId) (w0 : World) (F0 : Nat → Prop) (k : Int) (p : Ask R20) (s : σ) (e : Ending) (w' : World) : Prop :=
  ∃ F, PW At w0 F0 ob (M.run p s).2 w' F ∧ w'.cell? ⟨ob, 0, none⟩ = some (.int .i64 k) ∧
    match (M.run p s).1.1 with
    | none => e = .returned .nilIface ∧ SqTold w0 w' F ob ty (M.run p s).1.2
    | some i => ∃ ev, e = .returned ev ∧ ErrV w' 3 [(⟨#[99, 111, 101, 102]⟩, (i : Int))] ev
theorem SqBlk.getD4 (h : SqBlk W ob ty k mode ms x y lv vs) (hm : ∀ j, j < 4 → ms.getD j 0 = ms'.getD j 0) (hv : ∀ j, j < 4 → vs.getD j nilS = vs'.getD j nilS) : SqBlk W ob ty k mode ms' x y lv vs' := by
  obtain ⟨cs, hb, hs, h0, h1, h2, hx, hy, hl, h3⟩ := h
  exact ⟨cs, hb, hs, h0, h1, fun j hj => (h2 j hj).trans (by rw [hm j hj]), hx, hy, hl, fun j hj => (h3 j hj).trans (by rw [hv j hj])⟩
theorem getD_zero4 {α : Type} (d : α) (j : Nat) : ([] : List α).getD j d = [d, d, d, d].getD j d := by
  match j with
  | 0 => rfl
  | 1 => rfl
  | 2 => rfl
  | 3 => rfl
  | j + 4 => rfl
theorem PW.earlier {w : World} (h : PW At w1 F0 ob s W F) (hb : Below w.heap.size w w1) (ho : ob < w.heap.size) : PW At w F0 ob s W F :=
  ⟨h.a, ⟨h.o.os.trans hb.os, h.o.tape.trans hb.tape, h.o.output.trans hb.output, Nat.le_trans hb.size h.o.size, fun k hk hn => (h.o.block k (by have := hb.size; omega) hn).trans (hb.block k hk)⟩, fun k hk => by
    rcases h.f k hk with e | e
    · exact .inl e
    · exact .inr (Nat.le_trans hb.size e), h.n, ho⟩
theorem run_zip_none {α : Type} (M : Mach σ) (p : Ask α) (f : α → Ask R20) (s : σ) : M.run (p.bind f) s = M.run (f (M.run p s).1) (M.run p s).2 := run_bind M p f s
end
end Go.Proofs.YtkkgpdejmcpcpaaGreatDoor

