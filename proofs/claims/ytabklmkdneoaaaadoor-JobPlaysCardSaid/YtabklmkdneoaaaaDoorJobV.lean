/- Chapter 27: the document's job: its memory; Has, whole, Missing; running. -/
import Derived.Test.YtabklmkdneoaaaaDoorJobD
/- Chapter 27: the document's job: its memory; Has, whole, Missing. -/
namespace Go.Proofs.YtabklmkdneoaaaaDoor
open Go.RowKit

/-- The cells of the document's job. -/
structure XC (s : JobS) (cs : Array Value) : Prop where
  size : cs.size = 105
  c0 : cs[0]? = some (.int .i64 s.st)
  c1 : cs[1]? = some (.int .i64 s.sm)
  c2 : cs[2]? = some (.int .i64 s.ch)
  c3 : cs[3]? = some (.int .i64 s.cd)
  is : ∀ i : Nat, i < 16 → cs[4 + i]? = some (.bool (dAt s.d (i : Int)).isSome)
  r0 : ∀ i : Nat, i < 16 → cs[20 + i * 5]? = some (.int .i64 ((dAt s.d (i : Int)).getD recZ).kind)
  r1 : ∀ i : Nat, i < 16 → cs[20 + i * 5 + 1]? = some (.int .i64 ((dAt s.d (i : Int)).getD recZ).sum)
  r2 : ∀ i : Nat, i < 16 → cs[20 + i * 5 + 2]? = some (.int .i64 ((dAt s.d (i : Int)).getD recZ).num)
  r3 : ∀ i : Nat, i < 16 → cs[20 + i * 5 + 3]? = some (.int .i64 ((dAt s.d (i : Int)).getD recZ).len)
  r4 : ∀ i : Nat, i < 16 → cs[20 + i * 5 + 4]? = some (.int .i64 ((dAt s.d (i : Int)).getD recZ).code)
  e0 : cs[100]? = some (.int .i64 s.e.kind)
  e1 : cs[101]? = some (.int .i64 s.e.sum)
  e2 : cs[102]? = some (.int .i64 s.e.num)
  e3 : cs[103]? = some (.int .i64 s.e.len)
  e4 : cs[104]? = some (.int .i64 s.e.code)
/-- Block b is the document's job. -/
def XJ (b : Nat) (s : JobS) (W : World) : Prop := ∃ cs, Blk W b 94 cs ∧ XC s cs
section
variable {b : Nat} {s : JobS} {W W' : World}
theorem XJ.lt (h : XJ b s W) : b < W.heap.size := by obtain ⟨cs, h1, _⟩ := h; exact h1.lt
theorem XJ.keep {S : Nat → Prop} (h : XJ b s W) (ho : Only S W W') (hb : ¬ S b) : XJ b s W' := by obtain ⟨cs, h1, h2⟩ := h; exact ⟨cs, h1.keep ho hb, h2⟩
theorem XJ.below (h : XJ b s W) (hb : Below W.heap.size W W') : XJ b s W' := by obtain ⟨cs, h1, h2⟩ := h; exact ⟨cs, h1.below hb h1.lt, h2⟩
theorem XJ.frozen (h : XJ b s W) (i : Nat) : W.frozen? ⟨b, i, none⟩ = false := by obtain ⟨cs, h1, _⟩ := h; exact h1.frozen i
theorem XJ.cells (h : XJ b s W) : W.cell? ⟨b, 0, none⟩ = some (.int .i64 s.st) ∧ W.cell? ⟨b, 1, none⟩ = some (.int .i64 s.sm) ∧ W.cell? ⟨b, 2, none⟩ = some (.int .i64 s.ch) ∧ W.cell? ⟨b, 3, none⟩ = some (.int .i64 s.cd) := by
  obtain ⟨cs, h1, h2⟩ := h
  exact ⟨(h1.cell 0).trans h2.c0, (h1.cell 1).trans h2.c1, (h1.cell 2).trans h2.c2, (h1.cell 3).trans h2.c3⟩
theorem XJ.is (h : XJ b s W) {i : Nat} (hi : i < 16) : W.cell? ⟨b, 4 + i, none⟩ = some (.bool (dAt s.d (i : Int)).isSome) := by
  obtain ⟨cs, h1, h2⟩ := h
  exact (h1.cell _).trans (h2.is i hi)
theorem XJ.recs (h : XJ b s W) {i : Nat} (hi : i < 16) : W.cell? ⟨b, 20 + i * 5, none⟩ = some (.int .i64 ((dAt s.d (i : Int)).getD recZ).kind) ∧ W.cell? ⟨b, 20 + i * 5 + 1, none⟩ = some (.int .i64 ((dAt s.d (i : Int)).getD recZ).sum) ∧ W.cell? ⟨b, 20 + i * 5 + 2, none⟩ = some (.int .i64 ((dAt s.d (i : Int)).getD recZ).num) ∧ W.cell? ⟨b, 20 + i * 5 + 3, none⟩ = some (.int .i64 ((dAt s.d (i : Int)).getD recZ).len) ∧ W.cell? ⟨b, 20 + i * 5 + 4, none⟩ = some (.int .i64 ((dAt s.d (i : Int)).getD recZ).code) := by
  obtain ⟨cs, h1, h2⟩ := h
  exact ⟨(h1.cell _).trans (h2.r0 i hi), (h1.cell _).trans (h2.r1 i hi), (h1.cell _).trans (h2.r2 i hi), (h1.cell _).trans (h2.r3 i hi), (h1.cell _).trans (h2.r4 i hi)⟩
theorem XJ.ends (h : XJ b s W) : W.cell? ⟨b, 100, none⟩ = some (.int .i64 s.e.kind) ∧ W.cell? ⟨b, 101, none⟩ = some (.int .i64 s.e.sum) ∧ W.cell? ⟨b, 102, none⟩ = some (.int .i64 s.e.num) ∧ W.cell? ⟨b, 103, none⟩ = some (.int .i64 s.e.len) ∧ W.cell? ⟨b, 104, none⟩ = some (.int .i64 s.e.code) := by
  obtain ⟨cs, h1, h2⟩ := h
  exact ⟨(h1.cell _).trans h2.e0, (h1.cell _).trans h2.e1, (h1.cell _).trans h2.e2, (h1.cell _).trans h2.e3, (h1.cell _).trans h2.e4⟩
end
theorem dAt_over {s : JobS} (h : JI s) {n : Int} (hn : s.ch ≤ n) : dAt s.d n = none := by
  have h0 := h.ch0
  obtain ⟨k, rfl⟩ := Int.eq_ofNat_of_zero_le (show 0 ≤ n by omega)
  rw [dAt_nat]
  cases hd : (s.d[k]?).join with
  | none => rfl
  | some r => have := h.in_ k (by rw [hd]; simp); omega
set_option maxRecDepth 100000 in
set_option maxHeartbeats 1000000 in
theorem has_any (b : Nat) (s : JobS) (n : Int) (w : World) (h : XJ b s w) (hi : JI s) : Calls Tryd.prog 79 #[.pointer (some ⟨b, 0, none⟩), .int .i64 n] w fun e w' => e = .returned (.bool (dAt s.d n).isSome) ∧ w' = w := by
  obtain ⟨c0, c1, c2, c3⟩ := h.cells
  have hch := hi.ch1
  have hcase : (n < 0 ∧ dAt s.d n = none) ∨ (0 ≤ n ∧ s.ch ≤ n ∧ dAt s.d n = none) ∨ (∃ k : Nat, n = k ∧ (k : Int) < s.ch) := by
    rcases Int.lt_or_le n 0 with h1 | h1
    · exact .inl ⟨h1, dAt_neg _ _ h1⟩
    · rcases Int.lt_or_le n s.ch with h2 | h2
      · obtain ⟨k, rfl⟩ := Int.eq_ofNat_of_zero_le h1
        exact .inr (.inr ⟨k, rfl, h2⟩)
      · exact .inr (.inl ⟨h1, h2, dAt_over hi h2⟩)
  rcases hcase with ⟨h1, hd⟩ | ⟨h1, h2, hd⟩ | ⟨k, rfl, hk⟩
  · rw [hd]
    have d1 : decide (0 ≤ n) = false := by simp; omega
    clear h hi hd
    go_enter Tryd.func79, Tryd.ntmps79
    go_wp2_with fail
    go_ret
    exact ⟨rfl, rfl⟩
  · rw [hd]
    have d1 : decide (0 ≤ n) = true := by simp; omega
    have d2 : decide (n < s.ch) = false := by simp; omega
    clear h hi hd
    go_enter Tryd.func79, Tryd.ntmps79
    go_wp2_with fail
    go_ret
    exact ⟨rfl, rfl⟩
  · have his := h.is (i := k) (by omega)
    have k0 : (0 : Int) ≤ (k : Int) := by omega
    have k1 : (k : Int) < 16 := by omega
    have d2 : decide ((k : Int) < s.ch) = true := by simp; omega
    generalize (dAt s.d (k : Int)).isSome = q at *
    clear h hi
    go_enter Tryd.func79, Tryd.ntmps79
    go_wp2_with fail
    go_ret
    exact ⟨rfl, rfl⟩
end Go.Proofs.YtabklmkdneoaaaaDoor
/- Chapter 27: the document's job: whole, Missing. -/
namespace Go.Proofs.YtabklmkdneoaaaaDoor
open Go.RowKit

set_option maxRecDepth 100000 in
set_option maxHeartbeats 1000000 in
theorem whole_any (b : Nat) (s : JobS) (w : World) (h : XJ b s w) (hi : JI s) : Calls Tryd.prog 105 #[.pointer (some ⟨b, 0, none⟩)] w fun e w' => e = .returned (.bool (decide (0 < s.ch ∧ (cntD s.d : Int) = s.ch))) ∧ w' = w := by
  have X := hid h
  obtain ⟨c0, c1, c2, c3⟩ := h.cells
  obtain ⟨ch, hch⟩ := Int.eq_ofNat_of_zero_le hi.ch0
  have hch1 := hi.ch1
  have hcnt := hi.cnt.2
  rw [hch] at c2 hch1 hcnt ⊢
  have hc16 : ch ≤ 16 := by omega
  have hno : ∀ i : Nat, i < ch → (dAt s.d (i : Int)).isSome = false → decide (0 < (ch : Int) ∧ (cntD s.d : Int) = ch) = false := by
    intro i h1 h2
    refine decide_eq_false ?_
    rintro ⟨_, h4⟩
    have := hcnt.1 h4 i (by omega)
    rw [h2] at this
    exact Bool.noConfusion this
  have hyes : (∀ i : Nat, i < ch → (dAt s.d (i : Int)).isSome = true) → decide (0 < (ch : Int) ∧ (cntD s.d : Int) = ch) = decide (0 < (ch : Int)) := by
    intro h1
    have := hcnt.2 (fun i h2 => h1 i (by omega))
    simp [this]
  have HQ := hid (And.intro hno hyes)
  clear hno hyes hcnt h hi hch hch1
  generalize decide (0 < (ch : Int) ∧ (cntD s.d : Int) = ch) = q at *
  go_enter Tryd.func105, Tryd.ntmps105
  go_wp2_with fail
  go_loopg [3] ch (fun k iv wr => ∃ i : Nat, i + k = ch ∧ iv = .int .i64 i ∧ (∀ j : Nat, j < i → (dAt s.d (j : Int)).isSome = true) ∧ w = wr)
  case atStart => exact ⟨0, by omega, rfl, fun j hj => absurd hj (by omega), rfl⟩
  case round =>
    obtain ⟨i, hik, rfl, hall, rfl⟩ := hrel
    by_cases hlt : i < ch
    · have his := X.out.is (i := i) (by omega)
      have R := hid (And.intro hik (And.intro hlt hall))
      have hd : (dAt s.d (i : Int)).isSome = true ∨ (dAt s.d (i : Int)).isSome = false := by cases (dAt s.d (i : Int)).isSome <;> simp
      have k0 : (0 : Int) ≤ (i : Int) := by omega
      have k1 : (i : Int) < 16 := by omega
      have k2 : (i : Int) < (ch : Int) := by omega
      have d1 : decide ((i : Int) < (ch : Int)) = true := by simp; omega
      have d2 : decide (i < ch) = true := by simp; omega
      clear hik hlt hall
      rcases hd with hd | hd
      · rw [hd] at his
        have HD := hid hd
        clear hd
        go_wp2_with fail
        obtain ⟨hik, hlt, hall⟩ := R.out
        go_roundg (gk - 1)
        case measure => omega
        case rel =>
          refine ⟨i + 1, by omega, by go_num, ?_, rfl⟩
          intro j hj
          rcases Nat.lt_or_ge j i with h1 | h1
          · exact hall j h1
          · obtain rfl : j = i := by omega
            exact HD.out
      · rw [hd] at his
        have HD := hid hd
        clear hd
        go_wp2_with fail
        go_ret
        exact ⟨by rw [HQ.out.1 i R.out.2.1 HD.out]; rfl, rfl⟩
    · obtain rfl : i = ch := by omega
      have d1 : decide ((i : Int) < (i : Int)) = false := by simp
      have HA := hid (HQ.out.2 hall)
      clear hall hik hlt
      go_wp2_with fail
      go_ret
      refine ⟨?_, rfl⟩
      rw [HA.out]
      simp
set_option maxRecDepth 100000 in
set_option maxHeartbeats 1000000 in
theorem rmissing_any (b : Nat) (s : JobS) (w : World) (h : XJ b s w) (hi : JI s) : Calls Tryd.prog 83 #[.pointer (some ⟨b, 0, none⟩)] w (MissRes (missTo s s.ch.toNat) w) := by
  obtain ⟨i0, hi0, hz0, hz1, hz2⟩ := info_parts info_intJ
  have IP := hid (And.intro hi0 (And.intro hz0 (And.intro hz1 hz2)))
  have X := hid h
  obtain ⟨c0, c1, c2, c3⟩ := h.cells
  obtain ⟨ch, hch⟩ := Int.eq_ofNat_of_zero_le hi.ch0
  have hch1 := hi.ch1
  have e1 : s.ch.toNat = ch := by omega
  rw [e1]
  rw [hch] at c2 hch1
  have hc16 : ch ≤ 16 := by omega
  have C2 := hid c2
  clear hi0 hz0 hz1 hz2 h hi e1 hch1
  go_enter Tryd.func83, Tryd.ntmps83
  go_wp2_with fail
  go_loopg [3, 4] ch (fun k lv iv wr => ∃ i : Nat, i + k = ch ∧ iv = .int .i64 i ∧ wr.ownsRow w.heap.size 3 1 lv (missTo s i).length ((missTo s i).map natV) ∧ Below w.heap.size w wr)
  case atStart => exact ⟨0, by omega, rfl, World.ownsRow_nil _ _ _ _, Below.refl _ _⟩
  case round =>
    obtain ⟨i, hik, rfl, hO, hB⟩ := hrel
    have J := X.out.below hB
    obtain ⟨c0', c1', c2', c3'⟩ := J.cells
    rw [hch] at c2'
    have R := hid (And.intro hO (And.intro hB (missTo_len s i)))
    by_cases hlt : i < ch
    · have his := J.is (i := i) (by omega)
      have k0 : (0 : Int) ≤ (i : Int) := by omega
      have k3 : (i : Int) < 16 := by omega
      have d1 : decide ((i : Int) < (ch : Int)) = true := by simp; omega
      have d2 : decide (i < ch) = true := by simp; omega
      have hyes : (dAt s.d (i : Int)).isSome = true → missTo s (i + 1) = missTo s i := missTo_yes
      have hno : (dAt s.d (i : Int)).isSome = false → missTo s (i + 1) = missTo s i ++ [i] := missTo_no
      generalize (dAt s.d (i : Int)).isSome = q at *
      have HI := hid (And.intro hik hlt)
      have k1 : (i : Int) < (ch : Int) := by omega
      have JJ := hid J
      clear hik hlt hO hB J c0 c1 c2 c3 hch
      cases q
      · have HN := hid (hno rfl)
        clear hyes hno
        have hz := R.out.2.1.size
        have F := hid (blk_fromJ (blk_new_at (w := wr) (n := wr.heap.size) rfl 3 #[.int .i64 i]) 1)
        go_wp2_with (at_builtin; refine wpList_append_form _ rfl (.tmp 20) (.tmp 22) _ rfl w.heap.size 3 i0 (.int .i64 0) 1 8 Tryd.underlying61 IP.out.1 IP.out.2.1 IP.out.2.2.1 IP.out.2.2.2 rfl (by omega) u3 (missTo s i).length ((missTo s i).map natV) rfl (by exact R.out.1.alloc _) (.slice (some ⟨wr.heap.size, 0, none⟩) 1 1) 1 [.int .i64 i] rfl (by exact F.out) (by simp [Value.oneCell']) (.inr (by have := R.out.2.1.size; omega)) (by have := R.out.2.2; unfold maxLen; omega) (by have := R.out.2.2; omega) (by simp; omega) ((missTo s i).length + 1) ((missTo s i ++ [i]).map natV) rfl (by simp [natV]) ?_; intro g4 cap4 w4 hown hgrow hat hlt4)
        have ob := R.out.1.alloc (.cells #[.int .i64 i] 3)
        have bb := R.out.2.1.alloc R.out.2.1.size (.cells #[.int .i64 i] 3)
        have b4 := bb.grown hgrow bb.size (fun k hk => (ob.lt k hk).1)
        have B4 := hid (And.intro hown b4)
        clear hown hgrow hat hlt4 ob bb b4
        go_wp2_with fail
        obtain ⟨hik, hlt⟩ := HI.out
        go_roundg (gk - 1)
        case measure => omega
        case rel =>
          refine ⟨i + 1, by omega, by go_num, ?_, B4.out.2⟩
          rw [HN.out, List.length_append]
          exact B4.out.1
      · have HN := hid (hyes rfl)
        clear hyes hno
        go_wp2_with fail
        obtain ⟨hik, hlt⟩ := HI.out
        go_roundg (gk - 1)
        case measure => omega
        case rel =>
          refine ⟨i + 1, by omega, by go_num, ?_, R.out.2.1⟩
          rw [HN.out]
          exact R.out.1
    · obtain rfl : i = ch := by omega
      have d1 : decide ((i : Int) < (i : Int)) = false := by simp
      go_wp2_with fail
      go_ret
      exact ⟨_, rfl, R.out.1, R.out.2.1⟩
end Go.Proofs.YtabklmkdneoaaaaDoor
/- Chapter 27: the document's job: running. -/
namespace Go.Proofs.YtabklmkdneoaaaaDoor
open Go.RowKit

/-- The n-th record is turned, and nothing else. -/
theorem XC.turn {s : JobS} {cs cs' : Array Value} (h : XC s cs) (hl : s.d.length = 16) (n : Nat) (hn : n < 16) (o : Option RecS) (hsz : cs'.size = 105)
    (hi : cs'[4 + n]? = some (.bool o.isSome)) (h0 : cs'[20 + n * 5]? = some (.int .i64 (o.getD recZ).kind)) (h1 : cs'[20 + n * 5 + 1]? = some (.int .i64 (o.getD recZ).sum)) (h2 : cs'[20 + n * 5 + 2]? = some (.int .i64 (o.getD recZ).num)) (h3 : cs'[20 + n * 5 + 3]? = some (.int .i64 (o.getD recZ).len)) (h4 : cs'[20 + n * 5 + 4]? = some (.int .i64 (o.getD recZ).code))
    (ho : ∀ i : Nat, i ≠ 4 + n → (i < 20 + n * 5 ∨ 20 + n * 5 + 5 ≤ i) → cs'[i]? = cs[i]?) : XC { s with d := s.d.set n o } cs' := by
  have hsame : dAt (s.d.set n o) (n : Int) = o := dAt_set_same _ _ _ (by omega)
  have hoth : ∀ i : Nat, i ≠ n → dAt (s.d.set n o) (i : Int) = dAt s.d (i : Int) := fun i hi => dAt_set_other _ _ _ _ (by omega)
  refine ⟨hsz, (ho 0 (by omega) (by omega)).trans h.c0, (ho 1 (by omega) (by omega)).trans h.c1, (ho 2 (by omega) (by omega)).trans h.c2, (ho 3 (by omega) (by omega)).trans h.c3, ?_, ?_, ?_, ?_, ?_, ?_, (ho 100 (by omega) (by omega)).trans h.e0, (ho 101 (by omega) (by omega)).trans h.e1, (ho 102 (by omega) (by omega)).trans h.e2, (ho 103 (by omega) (by omega)).trans h.e3, (ho 104 (by omega) (by omega)).trans h.e4⟩
  all_goals
    intro i hi16
    dsimp only
    by_cases e : i = n
    · subst e
      rw [hsame]
      assumption
    · rw [hoth i e]
      first
        | exact (ho _ (by omega) (by omega)).trans (h.is i hi16)
        | exact (ho _ (by omega) (by omega)).trans (h.r0 i hi16)
        | exact (ho _ (by omega) (by omega)).trans (h.r1 i hi16)
        | exact (ho _ (by omega) (by omega)).trans (h.r2 i hi16)
        | exact (ho _ (by omega) (by omega)).trans (h.r3 i hi16)
        | exact (ho _ (by omega) (by omega)).trans (h.r4 i hi16)
/-- A record's block; the document's job. -/
structure RX (w : World) (r : RecS) (b : Nat) (s : JobS) (W : World) : Prop where
  r : Blk W w.heap.size 71 #[.int .i64 r.kind, .int .i64 r.sum, .int .i64 r.num, .int .i64 r.len, .int .i64 r.code]
  j : XJ b s W
  lt : b < w.heap.size
  only : Only (fun k => k = b) w W
theorem RX.new {w : World} {r : RecS} {b : Nat} {s : JobS} (h : XJ b s w) : RX w r b s (w.alloc (.cells #[.int .i64 r.kind, .int .i64 r.sum, .int .i64 r.num, .int .i64 r.len, .int .i64 r.code] 71)) :=
  ⟨Blk.new _ _ _, h.below ((Below.refl _ _).alloc (Nat.le_refl _) _), h.lt, (Only.refl _ _).alloc _⟩
theorem RX.cells {w W : World} {r : RecS} {b : Nat} {s : JobS} (h : RX w r b s W) : W.cell? ⟨w.heap.size, 0, none⟩ = some (.int .i64 r.kind) ∧ W.cell? ⟨w.heap.size, 1, none⟩ = some (.int .i64 r.sum) ∧ W.cell? ⟨w.heap.size, 2, none⟩ = some (.int .i64 r.num) ∧ W.cell? ⟨w.heap.size, 3, none⟩ = some (.int .i64 r.len) ∧ W.cell? ⟨w.heap.size, 4, none⟩ = some (.int .i64 r.code) := by
  refine ⟨?_, ?_, ?_, ?_, ?_⟩ <;> (rw [h.r.cell]; rfl)
theorem RX.step {w W W' : World} {r : RecS} {b : Nat} {s : JobS} (h : RX w r b s W) (hb : Below W.heap.size W W') : RX w r b s W' :=
  ⟨h.r.below hb h.r.lt, h.j.below hb, h.lt, h.only.trans (Only.of_below hb)⟩
def RRunRes (b : Nat) (c : Int) (s' : JobS) (w : World) (e : Ending) (w' : World) : Prop := e = .returned (.int .i64 c) ∧ XJ b s' w' ∧ Only (fun k => k = b) w w'
set_option maxRecDepth 100000 in
set_option maxHeartbeats 1000000 in
theorem rrun_done_bad (b : Nat) (s : JobS) (r : RecS) (w : World) (h : XJ b s w) (hk : r.kind = 49) (hn : s.ch ≤ r.num) : Calls Tryd.prog 89 #[.pointer (some ⟨b, 0, none⟩), r.val] w (RRunRes b 3 s w) := by
  have R := hid (RX.new (r := r) h)
  obtain ⟨c0, c1, c2, c3⟩ := R.out.j.cells
  obtain ⟨k, r1, r2, r3, r4⟩ := r
  have hk' : k = 49 := hk
  subst hk'
  have hn' : s.ch ≤ r2 := hn
  obtain ⟨p0, p1, p2, p3, p4⟩ := R.out.cells
  unfold RecS.val
  dsimp only at *
  clear h hk hn
  go_enter Tryd.func89, Tryd.ntmps89
  go_wp2_with fail
  go_quiet (fail)
  go_wp2_with fail
  go_ret
  have R2 := R.out.step (bel_drewN _ nq)
  exact ⟨rfl, R2.j, R2.only⟩
set_option maxRecDepth 100000 in
set_option maxHeartbeats 1000000 in
theorem rrun_fail_bad (b : Nat) (s : JobS) (r : RecS) (w : World) (h : XJ b s w) (hk : r.kind = 50) (hn : 0 < s.ch) : Calls Tryd.prog 89 #[.pointer (some ⟨b, 0, none⟩), r.val] w (RRunRes b 14 s w) := by
  have R := hid (RX.new (r := r) h)
  obtain ⟨c0, c1, c2, c3⟩ := R.out.j.cells
  obtain ⟨k, r1, r2, r3, r4⟩ := r
  have hk' : k = 50 := hk
  subst hk'
  obtain ⟨p0, p1, p2, p3, p4⟩ := R.out.cells
  unfold RecS.val
  dsimp only at *
  clear h hk
  go_enter Tryd.func89, Tryd.ntmps89
  go_wp2_with fail
  go_ret
  exact ⟨rfl, R.out.j, R.out.only⟩
set_option maxRecDepth 100000 in
set_option maxHeartbeats 1000000 in
theorem rrun_end_bad (b : Nat) (s : JobS) (r : RecS) (w : World) (h : XJ b s w) (hi : JI s) (hk : r.kind = 51) (hn : s.ch = 0 ∨ (cntD s.d : Int) < s.ch) : Calls Tryd.prog 89 #[.pointer (some ⟨b, 0, none⟩), r.val] w (RRunRes b 14 s w) := by
  have R := hid (RX.new (r := r) h)
  have HW := hid (fun W (h : XJ b s W) => whole_any b s W h hi)
  have hq : decide (0 < s.ch ∧ (cntD s.d : Int) = s.ch) = false := by
    refine decide_eq_false ?_
    omega
  rw [hq] at HW
  obtain ⟨c0, c1, c2, c3⟩ := R.out.j.cells
  obtain ⟨k, r1, r2, r3, r4⟩ := r
  have hk' : k = 51 := hk
  subst hk'
  obtain ⟨p0, p1, p2, p3, p4⟩ := R.out.cells
  unfold RecS.val
  dsimp only at *
  clear h hk hi hn hq
  go_enter Tryd.func89, Tryd.ntmps89
  go_wp2_with fail
  refine (HW.out _ (by exact R.out.j)).mono ?_
  rintro e w2 ⟨rfl, rfl⟩
  go_wp2_with fail
  go_ret
  exact ⟨rfl, R.out.j, R.out.only⟩
end Go.Proofs.YtabklmkdneoaaaaDoor
/- Chapter 27: the document's job: running, where it writes. -/
namespace Go.Proofs.YtabklmkdneoaaaaDoor
open Go.RowKit

theorem XC.head {s s' : JobS} {cs cs' : Array Value} (h : XC s cs) (hd : s'.d = s.d) (hsz : cs'.size = 105) (c0 : cs'[0]? = some (.int .i64 s'.st)) (c1 : cs'[1]? = some (.int .i64 s'.sm)) (c2 : cs'[2]? = some (.int .i64 s'.ch)) (c3 : cs'[3]? = some (.int .i64 s'.cd))
    (e0 : cs'[100]? = some (.int .i64 s'.e.kind)) (e1 : cs'[101]? = some (.int .i64 s'.e.sum)) (e2 : cs'[102]? = some (.int .i64 s'.e.num)) (e3 : cs'[103]? = some (.int .i64 s'.e.len)) (e4 : cs'[104]? = some (.int .i64 s'.e.code))
    (ho : ∀ i : Nat, 4 ≤ i → i < 100 → cs'[i]? = cs[i]?) : XC s' cs' := by
  refine ⟨hsz, c0, c1, c2, c3, ?_, ?_, ?_, ?_, ?_, ?_, e0, e1, e2, e3, e4⟩
  all_goals
    rw [hd]
    intro i hi
    first
      | exact (ho _ (by omega) (by omega)).trans (h.is i hi)
      | exact (ho _ (by omega) (by omega)).trans (h.r0 i hi)
      | exact (ho _ (by omega) (by omega)).trans (h.r1 i hi)
      | exact (ho _ (by omega) (by omega)).trans (h.r2 i hi)
      | exact (ho _ (by omega) (by omega)).trans (h.r3 i hi)
      | exact (ho _ (by omega) (by omega)).trans (h.r4 i hi)
set_option maxRecDepth 100000 in
set_option maxHeartbeats 1000000 in
theorem rrun_fail (b : Nat) (s : JobS) (r : RecS) (w : World) (h : XJ b s w) (hk : r.kind = 50) (hn : s.ch ≤ 0) : Calls Tryd.prog 89 #[.pointer (some ⟨b, 0, none⟩), r.val] w (RRunRes b 0 { s with st := 2, cd := r.code } w) := by
  have R := hid (RX.new (r := r) h)
  obtain ⟨c0, c1, c2, c3⟩ := R.out.j.cells
  obtain ⟨k, r1, r2, r3, r4⟩ := r
  have hk' : k = 50 := hk
  subst hk'
  obtain ⟨p0, p1, p2, p3, p4⟩ := R.out.cells
  have d1 : decide (0 < s.ch) = false := by simp; omega
  have f0 := R.out.j.frozen 0
  have f3 := R.out.j.frozen 3
  have hne : ¬ b = w.heap.size := by have := R.out.lt; omega
  have hne2 : ¬ w.heap.size = b := by omega
  unfold RecS.val
  dsimp only at *
  clear h hk hn
  go_enter Tryd.func89, Tryd.ntmps89
  go_wp2_with fail
  have K0 := hid (blk5 R.out.r.drew)
  have K1 := hid (blk5 (R.out.r.far (p := ⟨b, 0, none⟩) hne2 (.int .i64 2)).drew)
  have K2 := hid (blk5 ((R.out.r.far (p := ⟨b, 0, none⟩) hne2 (.int .i64 2)).far (p := ⟨b, 3, none⟩) hne2 (.int .i64 r4)).drew)
  dsimp only at K0 K1 K2
  go_region_held3 (fun W => W.cell? ⟨w.heap.size, 4, none⟩ = some (.int .i64 r4))
    (first | with_reducible exact K0.out.2.2.2.2 | with_reducible exact K1.out.2.2.2.2 | with_reducible exact K2.out.2.2.2.2) (fail)
  all_goals
    go_wp2_with fail
    go_ret
    obtain ⟨cs, hB0, hX⟩ := R.out.j
    refine ⟨rfl, ⟨_, ((hB0.put 0 (.int .i64 2)).put 3 (.int .i64 r4)).drew, ?_⟩, R.out.only.trans (((Only.refl (fun k => k = b) _).put (b := b) rfl 0 _).put (b := b) rfl 3 _).drew⟩
    refine hX.head rfl (by simp [hX.size]) ?_ ?_ ?_ ?_ ?_ ?_ ?_ ?_ ?_ ?_
    all_goals
      first
        | (intro i h1 h2
           rw [Array.getElem?_setIfInBounds_ne (by omega), Array.getElem?_setIfInBounds_ne (by omega)])
        | (repeat rw [Array.getElem?_setIfInBounds_ne (by omega)]
           first
             | with_reducible exact hX.c1
             | with_reducible exact hX.c2
             | with_reducible exact hX.c3
             | with_reducible exact hX.e0
             | with_reducible exact hX.e1
             | with_reducible exact hX.e2
             | with_reducible exact hX.e3
             | with_reducible exact hX.e4
             | exact Array.getElem?_setIfInBounds_self_of_lt (by simp [hX.size]))
set_option maxRecDepth 100000 in
set_option maxHeartbeats 1000000 in
theorem rrun_end (b : Nat) (s : JobS) (r : RecS) (w : World) (h : XJ b s w) (hi : JI s) (hk : r.kind = 51) (hn : 0 < s.ch ∧ (cntD s.d : Int) = s.ch) : Calls Tryd.prog 89 #[.pointer (some ⟨b, 0, none⟩), r.val] w (RRunRes b 0 { s with st := 3, e := r } w) := by
  have R := hid (RX.new (r := r) h)
  have HW := hid (fun W (h : XJ b s W) => whole_any b s W h hi)
  have hq : decide (0 < s.ch ∧ (cntD s.d : Int) = s.ch) = true := decide_eq_true hn
  rw [hq] at HW
  obtain ⟨c0, c1, c2, c3⟩ := R.out.j.cells
  obtain ⟨k, r1, r2, r3, r4⟩ := r
  have hk' : k = 51 := hk
  subst hk'
  obtain ⟨p0, p1, p2, p3, p4⟩ := R.out.cells
  have f0 := R.out.j.frozen 0
  have g0 := R.out.j.frozen 100
  have g1 := R.out.j.frozen 101
  have g2 := R.out.j.frozen 102
  have g3 := R.out.j.frozen 103
  have g4 := R.out.j.frozen 104
  obtain ⟨e0, e1, e2, e3, e4⟩ := R.out.j.ends
  have hne : ¬ b = w.heap.size := by have := R.out.lt; omega
  have hne2 : ¬ w.heap.size = b := by omega
  unfold RecS.val
  dsimp only at *
  clear h hk hi hn hq
  go_enter Tryd.func89, Tryd.ntmps89
  go_wp2_with fail
  refine (HW.out _ (by exact R.out.j)).mono ?_
  rintro e w2 ⟨rfl, rfl⟩
  go_wp2_with fail
  have K0 := hid (blk5 R.out.r.drew)
  have K1 := hid (blk5 (R.out.r.far (p := ⟨b, 0, none⟩) hne2 (.int .i64 3)).drew)
  have K2 := hid (blk5 ((((((R.out.r.far (p := ⟨b, 0, none⟩) hne2 (.int .i64 3)).far (p := ⟨b, 100, none⟩) hne2 (.int .i64 51)).far (p := ⟨b, 101, none⟩) hne2 (.int .i64 r1)).far (p := ⟨b, 102, none⟩) hne2 (.int .i64 r2)).far (p := ⟨b, 103, none⟩) hne2 (.int .i64 r3)).far (p := ⟨b, 104, none⟩) hne2 (.int .i64 r4)).drew)
  dsimp only at K0 K1 K2
  go_region_held3 (fun W => W.cell? ⟨w.heap.size, 0, none⟩ = some (.int .i64 51) ∧ W.cell? ⟨w.heap.size, 1, none⟩ = some (.int .i64 r1) ∧ W.cell? ⟨w.heap.size, 2, none⟩ = some (.int .i64 r2) ∧ W.cell? ⟨w.heap.size, 3, none⟩ = some (.int .i64 r3) ∧ W.cell? ⟨w.heap.size, 4, none⟩ = some (.int .i64 r4))
    (first | with_reducible exact K0.out | with_reducible exact K1.out | with_reducible exact K2.out) (fail)
  all_goals
    go_wp2_with fail
    go_ret
    obtain ⟨cs, hB0, hX⟩ := R.out.j
    refine ⟨rfl, ⟨_, ((((((hB0.put 0 (.int .i64 3)).put 100 (.int .i64 51)).put 101 (.int .i64 r1)).put 102 (.int .i64 r2)).put 103 (.int .i64 r3)).put 104 (.int .i64 r4)).drew, ?_⟩, R.out.only.trans (((((((Only.refl (fun k => k = b) _).put (b := b) rfl 0 _).put (b := b) rfl 100 _).put (b := b) rfl 101 _).put (b := b) rfl 102 _).put (b := b) rfl 103 _).put (b := b) rfl 104 _).drew⟩
    refine hX.head rfl (by simp [hX.size]) ?_ ?_ ?_ ?_ ?_ ?_ ?_ ?_ ?_ ?_
    all_goals
      first
        | (intro i h1 h2
           rw [Array.getElem?_setIfInBounds_ne (by omega), Array.getElem?_setIfInBounds_ne (by omega), Array.getElem?_setIfInBounds_ne (by omega), Array.getElem?_setIfInBounds_ne (by omega), Array.getElem?_setIfInBounds_ne (by omega), Array.getElem?_setIfInBounds_ne (by omega)])
        | (repeat rw [Array.getElem?_setIfInBounds_ne (by omega)]
           first
             | with_reducible exact hX.c1
             | with_reducible exact hX.c2
             | with_reducible exact hX.c3
             | with_reducible exact hX.e0
             | with_reducible exact hX.e1
             | with_reducible exact hX.e2
             | with_reducible exact hX.e3
             | with_reducible exact hX.e4
             | exact Array.getElem?_setIfInBounds_self_of_lt (by simp [hX.size]))
set_option maxRecDepth 100000 in
set_option maxHeartbeats 1000000 in
theorem rrun_done (b : Nat) (s : JobS) (r : RecS) (n : Nat) (w : World) (h : XJ b s w) (hd : s.d.length = 16) (hk : r.kind = 49) (hnn : r.num = n) (hn : r.num < s.ch) (hch : s.ch ≤ 16) : Calls Tryd.prog 89 #[.pointer (some ⟨b, 0, none⟩), r.val] w (RRunRes b 0 { s with d := s.d.set n (some r) } w) := by
  have R := hid (RX.new (r := r) h)
  obtain ⟨c0, c1, c2, c3⟩ := R.out.j.cells
  obtain ⟨k, r1, r2, r3, r4⟩ := r
  have hk' : k = 49 := hk
  have hr2 : r2 = n := hnn
  subst hk' hr2
  have hn' : (n : Int) < s.ch := hn
  obtain ⟨p0, p1, p2, p3, p4⟩ := R.out.cells
  have R1 := hid (fun q => R.out.step (bel_drewN _ q))
  have hn16 : n < 16 := by omega
  have HN := hid (And.intro hn16 hd)
  have k0 : (0 : Int) ≤ (n : Int) := by omega
  have k1 : (n : Int) < 16 := by omega
  unfold RecS.val
  dsimp only at *
  clear h hk hn hnn hd
  go_enter Tryd.func89, Tryd.ntmps89
  go_wp2_with fail
  go_quiet (fail)
  go_wp2_with fail
  have R2 := hid (R1.out nq)
  clear R1 R c0 c1 c2 c3 p0 p1 p2 p3 p4
  generalize World.drewN (w.alloc (.cells #[.int .i64 49, .int .i64 r1, .int .i64 n, .int .i64 r3, .int .i64 r4] 71)) nq = W2 at *
  obtain ⟨p0, p1, p2, p3, p4⟩ := R2.out.cells
  dsimp only at p0 p1 p2 p3 p4
  have his := R2.out.j.is hn16
  obtain ⟨e0, e1, e2, e3, e4⟩ := R2.out.j.recs hn16
  have f0 := R2.out.j.frozen (4 + n)
  have g0 := R2.out.j.frozen (20 + n * 5)
  have g1 := R2.out.j.frozen (20 + n * 5 + 1)
  have g2 := R2.out.j.frozen (20 + n * 5 + 2)
  have g3 := R2.out.j.frozen (20 + n * 5 + 3)
  have g4 := R2.out.j.frozen (20 + n * 5 + 4)
  have hne : ¬ b = w.heap.size := by have := R2.out.lt; omega
  have hne2 : ¬ w.heap.size = b := by omega
  have K0 := hid (blk5 R2.out.r.drew)
  have K1 := hid (blk5 (R2.out.r.far (p := ⟨b, 4 + n, none⟩) hne2 (.bool true)).drew)
  have K2 := hid (blk5 ((((((R2.out.r.far (p := ⟨b, 4 + n, none⟩) hne2 (.bool true)).far (p := ⟨b, 20 + n * 5, none⟩) hne2 (.int .i64 49)).far (p := ⟨b, 20 + n * 5 + 1, none⟩) hne2 (.int .i64 r1)).far (p := ⟨b, 20 + n * 5 + 2, none⟩) hne2 (.int .i64 n)).far (p := ⟨b, 20 + n * 5 + 3, none⟩) hne2 (.int .i64 r3)).far (p := ⟨b, 20 + n * 5 + 4, none⟩) hne2 (.int .i64 r4)).drew)
  dsimp only at K0 K1 K2
  go_region_held3 (fun W => W.cell? ⟨w.heap.size, 0, none⟩ = some (.int .i64 49) ∧ W.cell? ⟨w.heap.size, 1, none⟩ = some (.int .i64 r1) ∧ W.cell? ⟨w.heap.size, 2, none⟩ = some (.int .i64 n) ∧ W.cell? ⟨w.heap.size, 3, none⟩ = some (.int .i64 r3) ∧ W.cell? ⟨w.heap.size, 4, none⟩ = some (.int .i64 r4))
    (first | with_reducible exact K0.out | with_reducible exact K1.out | with_reducible exact K2.out) (fail)
  all_goals
    go_wp2_with fail
    go_ret
    obtain ⟨cs, hB0, hX⟩ := R2.out.j
    obtain ⟨hn16, hd⟩ := HN.out
    refine ⟨rfl, ⟨_, ((((((hB0.put (4 + n) (.bool true)).put (20 + n * 5) (.int .i64 49)).put (20 + n * 5 + 1) (.int .i64 r1)).put (20 + n * 5 + 2) (.int .i64 n)).put (20 + n * 5 + 3) (.int .i64 r3)).put (20 + n * 5 + 4) (.int .i64 r4)).drew, ?_⟩, R2.out.only.trans (((((((Only.refl (fun k => k = b) _).put (b := b) rfl (4 + n) _).put (b := b) rfl (20 + n * 5) _).put (b := b) rfl (20 + n * 5 + 1) _).put (b := b) rfl (20 + n * 5 + 2) _).put (b := b) rfl (20 + n * 5 + 3) _).put (b := b) rfl (20 + n * 5 + 4) _).drew⟩
    refine hX.turn hd n hn16 _ (by simp [hX.size]) ?_ ?_ ?_ ?_ ?_ ?_ ?_
    all_goals
      first
        | (intro i h1 h2
           rw [Array.getElem?_setIfInBounds_ne (by omega), Array.getElem?_setIfInBounds_ne (by omega), Array.getElem?_setIfInBounds_ne (by omega), Array.getElem?_setIfInBounds_ne (by omega), Array.getElem?_setIfInBounds_ne (by omega), Array.getElem?_setIfInBounds_ne (by omega)])
        | (repeat rw [Array.getElem?_setIfInBounds_ne (by omega)]
           exact Array.getElem?_setIfInBounds_self_of_lt (by simp [hX.size]; omega))
end Go.Proofs.YtabklmkdneoaaaaDoor
