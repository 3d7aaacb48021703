/- JobReplays: the walk. -/
import Derived.Test.YtabklmkdneoaaaaDoorJobSame
namespace Go.Proofs.YtabklmkdneoaaaaDoor
open Go.RowKit

/-- Where both stop: at one place. -/
theorem stop_same {l : List RecS} {n k : Nat} (hn : n ≤ l.length) (hk : k ≤ l.length) (tn : TakenTo l n) (tk : TakenTo l k) (fn : ∀ r, l[n]? = some r → applyNo (replTo (l.take n) jobZ) r ≠ 0) (fk : ∀ r, l[k]? = some r → applyNo (replTo (l.take k) jobZ) r ≠ 0) : n = k := by
  rcases Nat.lt_trichotomy n k with h | h | h
  · have hr : l[n]? = some l[n] := List.getElem?_eq_getElem (by omega)
    exact absurd (tk n h _ hr) (fn _ hr)
  · exact h
  · have hr : l[k]? = some l[k] := List.getElem?_eq_getElem (by omega)
    exact absurd (tn k h _ hr) (fk _ hr)
set_option maxRecDepth 100000 in
set_option maxHeartbeats 8000000 in
theorem jrepl_walk (x : Value) (l : List RecS) (w : World) (hx : RdR w x l) (_ : l.length ≤ maxLen) (hg : ErrT w) :
    Calls Tryd.prog 10 #[x] w fun e w' => e = .returned (.bool true) ∧ Below w.heap.size w w' := by
  obtain ⟨A, c, rfl, hc⟩ := hx.form
  have HG := hid (And.intro hg hg.lt)
  have X := hid hx
  by_cases hbig : 400 < l.length
  · have hb1 : decide ((400 : Int) < (l.length : Int)) = true := by simp; omega
    clear hbig hg hx hc
    go_enter Tryd.func10, Tryd.ntmps10
    go_wp2_with fail
    refine (jfirst_any _ HG.out.1).mono ?_
    rintro e w1 ⟨rfl, h1⟩
    have B1 := hid h1
    clear h1
    go_wp2_with fail
    refine (jfirst_any _ (HG.out.1.below B1.out HG.out.2)).mono ?_
    rintro e w2 ⟨rfl, h1⟩
    have B2 := hid h1
    clear h1
    go_wp2_with fail
    go_ret
    exact ⟨rfl, B1.out.trans (B2.out.mono B1.out.size)⟩
  · have hb1 : decide ((400 : Int) < (l.length : Int)) = false := by simp; omega
    have HL := hid (show l.length ≤ 400 by omega)
    obtain ⟨i0, hi0, hz0, hz1, hz2⟩ := info_parts info_rrec
    have IP := hid (And.intro hi0 (And.intro hz0 (And.intro hz1 hz2)))
    clear hi0 hz0 hz1 hz2 hbig hg hx hc
    go_enter Tryd.func10, Tryd.ntmps10
    go_wp2_with fail
    refine (jfirst_any _ HG.out.1).mono ?_
    rintro e w1 ⟨rfl, h1⟩
    have B1 := hid h1
    clear h1
    go_wp2_with fail
    go_loopg [3, 4] l.length (fun k lv iv wr => ∃ i : Nat, i + k = l.length ∧ iv = .int .i64 i ∧ wr.ownsRow w1.heap.size 71 5 lv (l.take i).length (recCells (l.take i)) ∧ Below w1.heap.size w1 wr)
    case atStart => exact ⟨0, by omega, rfl, World.ownsRow_nil _ _ _ _, Below.refl _ _⟩
    case round =>
      obtain ⟨i, hi, rfl, hO, hB⟩ := hrel
      have hil : (l.take i).length = i := by rw [List.length_take]; omega
      by_cases hlt : i < l.length
      · obtain ⟨r, hr⟩ : ∃ r, l[i]? = some r := ⟨l[i], List.getElem?_eq_getElem hlt⟩
        have hsn : recCells (l.take i) ++ [.int .i64 r.kind, .int .i64 r.sum, .int .i64 r.num, .int .i64 r.len, .int .i64 r.code] = recCells (l.take (i + 1)) := by rw [List.take_add_one, hr]; exact recCells_snoc _ _
        have hil2 : (l.take (i + 1)).length = i + 1 := by rw [List.length_take]; omega
        obtain ⟨b0, o0, rfl, _, p0, p1, p2, p3, p4⟩ := ((X.out.below B1.out).below hB).at_ hr
        have k0 : (0 : Int) ≤ (i : Int) := by omega
        have k1 : (i : Int) < (l.length : Int) := by omega
        have d1 : decide ((i : Int) < (l.length : Int)) = true := by simp; omega
        have d2 : decide (i < l.length) = true := by simp; omega
        have hl4 := HL.out
        have R := hid (And.intro hO hB)
        have FF := hid (And.intro hi (And.intro hlt (And.intro hsn (And.intro hil hil2))))
        have HP := hid (fun W => plain_any r W)
        clear hO hB hi hlt hsn hil hil2 hr
        obtain ⟨rk, r1, r2, r3, r4⟩ := r
        dsimp only at p0 p1 p2 p3 p4
        unfold RecS.val at HP
        dsimp only at HP
        go_wp2_with fail
        refine (HP.out _).mono ?_
        rintro e w3 ⟨rfl, hb3⟩
        have R3 := hid (And.intro (own_below R.out.1 hb3) (R.out.2.trans (hb3.mono R.out.2.size)))
        clear hb3 p0 p1 p2 p3 p4
        have F := hid (blk_from5 (c := 1) (m := 1) (Blk.new w3 71 #[.int .i64 rk, .int .i64 r1, .int .i64 r2, .int .i64 r3, .int .i64 r4]) rfl)
        have hz := R3.out.2.size
        have hal : Below w3.heap.size w3 (w3.alloc (.cells #[.int .i64 rk, .int .i64 r1, .int .i64 r2, .int .i64 r3, .int .i64 r4] 71)) := (Below.refl _ _).alloc (Nat.le_refl _) _
        have HAL := hid hal
        clear hal
        go_wp2_with (at_builtin; refine wpList_append_form _ rfl (.tmp 21) (.tmp 27) _ rfl w1.heap.size 71 i0 (.agg #[.int .i64 0, .int .i64 0, .int .i64 0, .int .i64 0, .int .i64 0]) 5 40 Tryd.underlying69 IP.out.1 IP.out.2.1 IP.out.2.2.1 IP.out.2.2.2 rfl (by omega) u3 (l.take i).length (recCells (l.take i)) rfl (by exact R3.out.1.alloc _) (.slice (some ⟨w3.heap.size, 0, none⟩) 1 1) 1 [.int .i64 rk, .int .i64 r1, .int .i64 r2, .int .i64 r3, .int .i64 r4] rfl (by exact F.out) (by simp [Value.oneCell']) (.inr (by omega)) (by have := FF.out.2.2.2.1; have := FF.out.2.1; unfold maxLen; omega) (by have := FF.out.2.2.2.1; omega) (by simp; omega) (l.take (i + 1)).length (recCells (l.take (i + 1))) (by have := FF.out.2.2.2.1; have := FF.out.2.2.2.2; omega) FF.out.2.2.1 ?_; intro g cap w6 hown hgrow hat hlt6)
        have hb6 : Below w1.heap.size w1 w6 := by
          have h1 := R3.out.2.trans (HAL.out.mono hz)
          exact h1.grown hgrow h1.size (fun k hk => (R3.out.1.lt k hk).1)
        have Q6 := hid (And.intro hown hb6)
        clear hown hgrow hat hlt6 hb6
        go_wp2_with fail
        go_roundg (gk - 1)
        case measure => have := FF.out.1; have := FF.out.2.1; omega
        case rel => exact ⟨i + 1, by have := FF.out.1; have := FF.out.2.1; omega, by go_num, by have h := Q6.out.1; rw [List.length_take] at h; rw [List.length_take]; exact h, Q6.out.2⟩
      · obtain rfl : i = l.length := by omega
        have d1 : decide ((l.length : Int) < (l.length : Int)) = false := by simp
        rw [List.take_length] at hO
        have XX := hid (And.intro (X.out.below (B1.out.trans (hB.mono B1.out.size))) (RdR.of_own hO))
        have BB := hid (B1.out.trans (hB.mono B1.out.size))
        have HA := hid (fun W (h : RdR W (.slice A l.length c) l) => replay_any _ l W h (by have := HL.out; omega))
        have HB := hid (fun W (h : RdR W u3 l) => rreplay_any _ l W h (by have := HL.out; omega))
        have hJF := fun n => JF.repl (l.take n)
        have HJ := hid hJF
        unfold ReplRes at HA
        unfold RReplRes at HB
        clear hO hB hi hlt hil hJF
        go_wp2_with fail
        refine (HA.out _ (by exact XX.out.1)).mono ?_
        rintro e w2 ⟨b1, m1, n, rfl, hj, hn, ht, hf⟩
        have Y2 := hid (And.intro hj (XX.out.2.below hj.bel))
        have N2 := hid (And.intro hn (And.intro ht hf))
        clear hj hn ht hf
        go_wp2_with fail
        refine (HB.out _ (by exact Y2.out.2)).mono ?_
        rintro e w3 ⟨b2, k, rfl, hx, hk, tk, fk⟩
        obtain rfl : n = k := stop_same N2.out.1 hk N2.out.2.1 tk N2.out.2.2 fk
        have Y3 := hid (And.intro (Y2.out.1.step hx.bel) hx)
        have B3 := hid (BB.out.trans ((Y2.out.1.step hx.bel).bel.mono BB.out.size))
        clear hx hk tk fk
        have HJn := hid (HJ.out n).toJI
        generalize replTo (l.take n) jobZ = S at *
        go_wp2_with fail
        refine (jfirst_any _ (HG.out.1.below B3.out HG.out.2)).mono ?_
        rintro e w4 ⟨rfl, hb4⟩
        have Y4 := hid (And.intro (Y3.out.1.j.below hb4) (Y3.out.2.j.below hb4))
        have B4 := hid (B3.out.trans (hb4.mono B3.out.size))
        clear hb4
        go_wp2_with fail
        refine (same_any b1 m1 b2 _ _ (by exact Y4.out.1) (by exact Y4.out.2) (by exact HJn.out)).mono ?_
        rintro e w5 ⟨rfl, hb5⟩
        have B5 := hid (B4.out.trans (hb5.mono B4.out.size))
        clear hb5
        go_wp2_with fail
        go_ret
        exact ⟨rfl, B5.out⟩
end Go.Proofs.YtabklmkdneoaaaaDoor
