/- Parts: XCoefO. -/
import Derived.Test.YtkkgpdejmcpcpaaGreatDoorM09
import Derived.Test.YtkkgpdejmcpcpaaGreatDoorM17
import Derived.Test.YtkkgpdejmcpcpaaGreatDoorM01
/- Chapter 14: the two orders. -/
namespace Go.Proofs.YtkkgpdejmcpcpaaGreatDoor
open Go.RowKit

def natV (n : Nat) : Value := .int .i64 (n : Int)
theorem info_int1 : (Tryz.prog.info? 3).map (fun i => (i.zero, i.size, i.bytes)) = some (some (.int .i64 0), 1, 8) := by kernel_rfl
theorem blk_from1 {w : World} {g : Nat} {t : TypeId} {v : Value} (h : Blk w g t #[v]) (c : Nat) : From w 1 (.slice (some ⟨g, 0, none⟩) 1 c) 1 [v] := by
  refine ⟨_, _, rfl, by simp, fun _ => ⟨_, rfl, fun j u hu => ?_⟩⟩
  rw [addr_add, Nat.zero_add, h.cell]
  simpa using hu
/-- A row of one's own of these numbers. -/
def OrdRes (l : List Nat) (w : World) (e : Ending) (w' : World) : Prop := ∃ lv, e = .returned lv ∧ w'.ownsRow w.heap.size 3 1 lv l.length (l.map natV) ∧ Below w.heap.size w w'
def ordY (s k : Nat) : Nat := if s % 2 = 0 then s - k else k
def ordX (s k : Nat) : Nat := if s % 2 = 0 then k else s - k
def ordRow (n s k : Nat) : List Nat := (List.range k).filterMap fun k => if ordX s k < n ∧ ordY s k < n then some (ordY s k * n + ordX s k) else none
def ordTo (n s : Nat) : List Nat := (List.range s).flatMap fun s => ordRow n s (s + 1)
theorem ordOf_to (n : Nat) : ordOf n = ordTo n (2 * n - 1) := rfl
theorem ordRow_succ (n s k : Nat) : ordRow n s (k + 1) = ordRow n s k ++ (if ordX s k < n ∧ ordY s k < n then [ordY s k * n + ordX s k] else []) := by
  unfold ordRow
  rw [List.range_succ, List.filterMap_append]
  congr 1
  by_cases h : ordX s k < n ∧ ordY s k < n
  · simp [h]
  · simp [h]
theorem ordTo_succ (n s : Nat) : ordTo n (s + 1) = ordTo n s ++ ordRow n s (s + 1) := by
  unfold ordTo
  rw [List.range_succ, List.flatMap_append]
  simp
theorem ordRow_len (n s k : Nat) : (ordRow n s k).length ≤ k := by
  have := List.length_filterMap_le (fun k => if ordX s k < n ∧ ordY s k < n then some (ordY s k * n + ordX s k) else none) (List.range k)
  rw [List.length_range] at this
  exact this
theorem ordTo_len (n : Nat) : ∀ s, s ≤ 16 → (ordTo n s).length ≤ s * 16 := by
  intro s
  induction s with
  | zero => intro _; simp [ordTo]
  | succ s ih =>
    intro h
    rw [ordTo_succ, List.length_append]
    have := ih (by omega)
    have := ordRow_len n s (s + 1)
    omega
/-- A number more in the row. -/
theorem ord_step {n s k : Nat} (hk : k ≤ s) (hs : s ≤ 14) : (s : Int) - (k : Int) = ((s - k : Nat) : Int) ∧ (s : Int) - ((s - k : Nat) : Int) = (k : Int) ∧ (ordTo n s ++ ordRow n s k).length ≤ 1000 := by
  refine ⟨by omega, by omega, ?_⟩
  rw [List.length_append]
  have := ordTo_len n s (by omega)
  have := ordRow_len n s k
  omega
theorem ordRow_even {n s k Y : Nat} (h : Y + k = s) (hp : s % 2 = 0) : ordRow n s (k + 1) = ordRow n s k ++ (if k < n ∧ Y < n then [Y * n + k] else []) := by
  subst h
  rw [ordRow_succ]
  unfold ordX ordY
  rw [if_pos hp, if_pos hp, Nat.add_sub_cancel]
theorem ordRow_odd {n s k Y : Nat} (h : Y + k = s) (hp : s % 2 = 1) : ordRow n s (k + 1) = ordRow n s k ++ (if Y < n ∧ k < n then [k * n + Y] else []) := by
  subst h
  rw [ordRow_succ]
  unfold ordX ordY
  rw [if_neg (c := (Y + k) % 2 = 0) (by omega), if_neg (c := (Y + k) % 2 = 0) (by omega), Nat.add_sub_cancel]
set_option maxRecDepth 100000 in
set_option maxHeartbeats 4000000 in
theorem order_any (n : Nat) (hn : n = 4 ∨ n = 8) (w : World) : Calls Tryz.prog 82 #[.int .i64 (n : Int)] w (OrdRes (ordOf n) w) := by
  obtain ⟨i0, hi0, hz0, hz1, hz2⟩ := info_parts info_int1
  have IP := hid (And.intro hi0 (And.intro hz0 (And.intro hz1 hz2)))
  clear hi0 hz0 hz1 hz2
  rcases hn with rfl | rfl
  all_goals
    go_enter Tryz.func82, Tryz.ntmps82
    go_wp2_with fail
  · go_loopg [3, 17] 7 (fun j lv iv wr => ∃ s : Nat, s + j = 7 ∧ iv = .int .i64 s ∧ wr.ownsRow w.heap.size 3 1 lv (ordTo 4 s).length ((ordTo 4 s).map natV) ∧ Below w.heap.size w wr)
    case atStart => exact ⟨0, by omega, rfl, World.ownsRow_nil _ _ _ _, Below.refl _ _⟩
    case round =>
      obtain ⟨s, hs, rfl, hO, hB⟩ := hrel
      have R := hid (And.intro hO hB)
      by_cases hlt : s < 7
      · have d1 : decide ((s : Int) < 7) = true := by simp; omega
        have HS := hid (And.intro hs hlt)
        clear hO hB hs
        obtain ⟨gk0, hgk0⟩ : ∃ g, g = gk := ⟨gk, rfl⟩
        subst hgk0
        go_wp2_with fail
        go_loopg [3, 22] (s + 1) (fun j lv iv wr => ∃ k : Nat, k + j = s + 1 ∧ iv = .int .i64 k ∧ wr.ownsRow w.heap.size 3 1 lv (ordTo 4 s ++ ordRow 4 s k).length ((ordTo 4 s ++ ordRow 4 s k).map natV) ∧ Below w.heap.size w wr)
        case atStart =>
          have e : ordTo 4 s ++ ordRow 4 s 0 = ordTo 4 s := List.append_nil _
          exact ⟨0, by omega, rfl, by rw [e]; exact R.out.1, R.out.2⟩
        case round =>
          obtain ⟨k, hk, rfl, hO, hB⟩ := hrel
          have R2 := hid (And.intro hO hB)
          clear hO hB
          by_cases hkl : k < s + 1
          · obtain ⟨e1, e2, e3⟩ := ord_step (n := 4) (s := s) (k := k) (by omega) (by omega)
            have hYk : (s - k) + k = s := by omega
            have hpar : s % 2 = 0 ∨ s % 2 = 1 := by omega
            have d4 : decide ((k : Int) < (s : Int) + 1) = true := by simp; omega
            have e4 : (s : Int) - (s : Int) + (k : Int) = (k : Int) := by omega
            generalize s - k = Y at *
            have hYlt : Y < 16 ∧ k < 16 := by omega
            rcases hpar with hp | hp
            · have hst := ordRow_even (n := 4) hYk hp
              have d2 : ((s : Int) % 2 == 0) = true := by simp; omega
              have hcase : (k < 4 ∧ Y < 4 ∧ decide ((k : Int) < 4) = true ∧ decide ((Y : Int) < 4) = true) ∨ (¬ (k < 4 ∧ Y < 4) ∧ (decide ((k : Int) < 4) = false ∨ (decide ((k : Int) < 4) = true ∧ decide ((Y : Int) < 4) = false))) := by
                simp only [decide_eq_true_eq, decide_eq_false_iff_not]
                omega
              have FF := hid (And.intro hk (And.intro hkl (And.intro e3 hp)))
              have FY := hid (And.intro hYk hYlt)
              rcases hcase with ⟨h1, h2, h3, h4⟩ | ⟨h1, h3⟩
              · rw [if_pos ⟨h1, h2⟩] at hst
                have HST := hid hst
                have hz := R2.out.2.size
                clear hst hp hk hkl hYk
                have F := hid (blk_from1 (Blk.new wr 3 #[.int .i64 ((Y : Int) * 4 + (k : Int))]) 1)
                have hv : [Value.int .i64 ((Y : Int) * 4 + (k : Int))] = [Y * 4 + k].map natV := by
                  have := FY.out.1
                  simp only [List.map_cons, List.map_nil, natV]
                  congr 2 <;> omega
                have HV := hid hv
                clear hv
                go_wp2_with (at_builtin; refine wpList_append_form _ rfl (.tmp 43) (.tmp 49) _ rfl w.heap.size 3 i0 (.int .i64 0) 1 8 Tryz.underlying33 IP.out.1 IP.out.2.1 IP.out.2.2.1 IP.out.2.2.2 rfl (by omega) u3 (ordTo 4 s ++ ordRow 4 s k).length ((ordTo 4 s ++ ordRow 4 s k).map natV) rfl (by exact R2.out.1.alloc _) (.slice (some ⟨wr.heap.size, 0, none⟩) 1 1) 1 [.int .i64 ((Y : Int) * 4 + (k : Int))] rfl (by exact F.out) (by simp [Value.oneCell']) (.inr (by omega)) (by have := FF.out.2.2.1; unfold maxLen; omega) (by have := FF.out.2.2.1; omega) (by simp; omega) ((ordTo 4 s ++ ordRow 4 s k).length + 1) ((ordTo 4 s ++ ordRow 4 s (k + 1)).map natV) rfl (by rw [HST.out, HV.out, ← List.append_assoc, List.map_append (l₂ := [Y * 4 + k])]) ?_; intro g4 cap4 w4 hown hgrow hat hlt4)
                have ob := R2.out.1.alloc (.cells #[.int .i64 ((Y : Int) * 4 + (k : Int))] 3)
                have bb := R2.out.2.alloc R2.out.2.size (.cells #[.int .i64 ((Y : Int) * 4 + (k : Int))] 3)
                have b4 := bb.grown hgrow bb.size (fun k hk => (ob.lt k hk).1)
                have B4 := hid (And.intro hown b4)
                clear hown hgrow hat hlt4 ob bb b4 hz
                go_wp2_with fail
                go_roundg (gk - 1)
                case measure => have := FF.out.1; have := FF.out.2.1; omega
                case rel =>
                  refine ⟨k + 1, by have := FF.out.1; have := FF.out.2.1; omega, by go_num, ?_, B4.out.2⟩
                  have e : (ordTo 4 s ++ ordRow 4 s (k + 1)).length = (ordTo 4 s ++ ordRow 4 s k).length + 1 := by rw [HST.out, ← List.append_assoc, List.length_append (bs := [Y * 4 + k])]; rfl
                  have h5 := B4.out.1
                  rw [List.length_append] at h5
                  rw [e, List.length_append]
                  exact h5
              · rw [if_neg h1, List.append_nil] at hst
                have HST := hid hst
                clear hst hp hk hkl h1 hYk
                rcases h3 with h3 | ⟨h3, h4⟩
                all_goals
                  go_wp2_with fail
                  go_roundg (gk - 1)
                  case measure => have := FF.out.1; have := FF.out.2.1; omega
                  case rel => exact ⟨k + 1, by have := FF.out.1; have := FF.out.2.1; omega, by go_num, by rw [HST.out]; exact R2.out.1, R2.out.2⟩
            · have hst := ordRow_odd (n := 4) hYk hp
              have d2 : ((s : Int) % 2 == 0) = false := by simp; omega
              have hcase : (Y < 4 ∧ k < 4 ∧ decide ((Y : Int) < 4) = true ∧ decide ((k : Int) < 4) = true) ∨ (¬ (Y < 4 ∧ k < 4) ∧ (decide ((Y : Int) < 4) = false ∨ (decide ((Y : Int) < 4) = true ∧ decide ((k : Int) < 4) = false))) := by
                simp only [decide_eq_true_eq, decide_eq_false_iff_not]
                omega
              have FF := hid (And.intro hk (And.intro hkl (And.intro e3 hp)))
              have FY := hid (And.intro hYk hYlt)
              rcases hcase with ⟨h1, h2, h3, h4⟩ | ⟨h1, h3⟩
              · rw [if_pos ⟨h1, h2⟩] at hst
                have HST := hid hst
                have hz := R2.out.2.size
                clear hst hp hk hkl hYk
                have F := hid (blk_from1 (Blk.new wr 3 #[.int .i64 ((k : Int) * 4 + (Y : Int))]) 1)
                have hv : [Value.int .i64 ((k : Int) * 4 + (Y : Int))] = [k * 4 + Y].map natV := by
                  have := FY.out.1
                  simp only [List.map_cons, List.map_nil, natV]
                  congr 2 <;> omega
                have HV := hid hv
                clear hv
                go_wp2_with (at_builtin; refine wpList_append_form _ rfl (.tmp 43) (.tmp 49) _ rfl w.heap.size 3 i0 (.int .i64 0) 1 8 Tryz.underlying33 IP.out.1 IP.out.2.1 IP.out.2.2.1 IP.out.2.2.2 rfl (by omega) u3 (ordTo 4 s ++ ordRow 4 s k).length ((ordTo 4 s ++ ordRow 4 s k).map natV) rfl (by exact R2.out.1.alloc _) (.slice (some ⟨wr.heap.size, 0, none⟩) 1 1) 1 [.int .i64 ((k : Int) * 4 + (Y : Int))] rfl (by exact F.out) (by simp [Value.oneCell']) (.inr (by omega)) (by have := FF.out.2.2.1; unfold maxLen; omega) (by have := FF.out.2.2.1; omega) (by simp; omega) ((ordTo 4 s ++ ordRow 4 s k).length + 1) ((ordTo 4 s ++ ordRow 4 s (k + 1)).map natV) rfl (by rw [HST.out, HV.out, ← List.append_assoc, List.map_append (l₂ := [k * 4 + Y])]) ?_; intro g4 cap4 w4 hown hgrow hat hlt4)
                have ob := R2.out.1.alloc (.cells #[.int .i64 ((k : Int) * 4 + (Y : Int))] 3)
                have bb := R2.out.2.alloc R2.out.2.size (.cells #[.int .i64 ((k : Int) * 4 + (Y : Int))] 3)
                have b4 := bb.grown hgrow bb.size (fun k hk => (ob.lt k hk).1)
                have B4 := hid (And.intro hown b4)
                clear hown hgrow hat hlt4 ob bb b4 hz
                go_wp2_with fail
                go_roundg (gk - 1)
                case measure => have := FF.out.1; have := FF.out.2.1; omega
                case rel =>
                  refine ⟨k + 1, by have := FF.out.1; have := FF.out.2.1; omega, by go_num, ?_, B4.out.2⟩
                  have e : (ordTo 4 s ++ ordRow 4 s (k + 1)).length = (ordTo 4 s ++ ordRow 4 s k).length + 1 := by rw [HST.out, ← List.append_assoc, List.length_append (bs := [k * 4 + Y])]; rfl
                  have h5 := B4.out.1
                  rw [List.length_append] at h5
                  rw [e, List.length_append]
                  exact h5
              · rw [if_neg h1, List.append_nil] at hst
                have HST := hid hst
                clear hst hp hk hkl h1 hYk
                rcases h3 with h3 | ⟨h3, h4⟩
                all_goals
                  go_wp2_with fail
                  go_roundg (gk - 1)
                  case measure => have := FF.out.1; have := FF.out.2.1; omega
                  case rel => exact ⟨k + 1, by have := FF.out.1; have := FF.out.2.1; omega, by go_num, by rw [HST.out]; exact R2.out.1, R2.out.2⟩
          · obtain rfl : k = s + 1 := by omega
            have d4 : decide (((s + 1 : Nat) : Int) < (s : Int) + 1) = false := by simp
            have hst := ordTo_succ 4 s
            have HST := hid hst
            clear hst hk hkl
            go_wp2_with fail
            go_roundg (gk0 - 1)
            case measure => have := HS.out.1; have := HS.out.2; omega
            case rel => exact ⟨s + 1, by have := HS.out.1; have := HS.out.2; omega, by go_num, by rw [HST.out]; exact R2.out.1, R2.out.2⟩
      · obtain rfl : s = 7 := by omega
        go_wp2_with fail
        go_ret
        exact ⟨_, rfl, R.out.1, R.out.2⟩
  · go_loopg [3, 17] 15 (fun j lv iv wr => ∃ s : Nat, s + j = 15 ∧ iv = .int .i64 s ∧ wr.ownsRow w.heap.size 3 1 lv (ordTo 8 s).length ((ordTo 8 s).map natV) ∧ Below w.heap.size w wr)
    case atStart => exact ⟨0, by omega, rfl, World.ownsRow_nil _ _ _ _, Below.refl _ _⟩
    case round =>
      obtain ⟨s, hs, rfl, hO, hB⟩ := hrel
      have R := hid (And.intro hO hB)
      by_cases hlt : s < 15
      · have d1 : decide ((s : Int) < 15) = true := by simp; omega
        have HS := hid (And.intro hs hlt)
        clear hO hB hs
        obtain ⟨gk0, hgk0⟩ : ∃ g, g = gk := ⟨gk, rfl⟩
        subst hgk0
        go_wp2_with fail
        go_loopg [3, 22] (s + 1) (fun j lv iv wr => ∃ k : Nat, k + j = s + 1 ∧ iv = .int .i64 k ∧ wr.ownsRow w.heap.size 3 1 lv (ordTo 8 s ++ ordRow 8 s k).length ((ordTo 8 s ++ ordRow 8 s k).map natV) ∧ Below w.heap.size w wr)
        case atStart =>
          have e : ordTo 8 s ++ ordRow 8 s 0 = ordTo 8 s := List.append_nil _
          exact ⟨0, by omega, rfl, by rw [e]; exact R.out.1, R.out.2⟩
        case round =>
          obtain ⟨k, hk, rfl, hO, hB⟩ := hrel
          have R2 := hid (And.intro hO hB)
          clear hO hB
          by_cases hkl : k < s + 1
          · obtain ⟨e1, e2, e3⟩ := ord_step (n := 8) (s := s) (k := k) (by omega) (by omega)
            have hYk : (s - k) + k = s := by omega
            have hpar : s % 2 = 0 ∨ s % 2 = 1 := by omega
            have d4 : decide ((k : Int) < (s : Int) + 1) = true := by simp; omega
            have e4 : (s : Int) - (s : Int) + (k : Int) = (k : Int) := by omega
            generalize s - k = Y at *
            have hYlt : Y < 16 ∧ k < 16 := by omega
            rcases hpar with hp | hp
            · have hst := ordRow_even (n := 8) hYk hp
              have d2 : ((s : Int) % 2 == 0) = true := by simp; omega
              have hcase : (k < 8 ∧ Y < 8 ∧ decide ((k : Int) < 8) = true ∧ decide ((Y : Int) < 8) = true) ∨ (¬ (k < 8 ∧ Y < 8) ∧ (decide ((k : Int) < 8) = false ∨ (decide ((k : Int) < 8) = true ∧ decide ((Y : Int) < 8) = false))) := by
                simp only [decide_eq_true_eq, decide_eq_false_iff_not]
                omega
              have FF := hid (And.intro hk (And.intro hkl (And.intro e3 hp)))
              have FY := hid (And.intro hYk hYlt)
              rcases hcase with ⟨h1, h2, h3, h4⟩ | ⟨h1, h3⟩
              · rw [if_pos ⟨h1, h2⟩] at hst
                have HST := hid hst
                have hz := R2.out.2.size
                clear hst hp hk hkl hYk
                have F := hid (blk_from1 (Blk.new wr 3 #[.int .i64 ((Y : Int) * 8 + (k : Int))]) 1)
                have hv : [Value.int .i64 ((Y : Int) * 8 + (k : Int))] = [Y * 8 + k].map natV := by
                  have := FY.out.1
                  simp only [List.map_cons, List.map_nil, natV]
                  congr 2 <;> omega
                have HV := hid hv
                clear hv
                go_wp2_with (at_builtin; refine wpList_append_form _ rfl (.tmp 43) (.tmp 49) _ rfl w.heap.size 3 i0 (.int .i64 0) 1 8 Tryz.underlying33 IP.out.1 IP.out.2.1 IP.out.2.2.1 IP.out.2.2.2 rfl (by omega) u3 (ordTo 8 s ++ ordRow 8 s k).length ((ordTo 8 s ++ ordRow 8 s k).map natV) rfl (by exact R2.out.1.alloc _) (.slice (some ⟨wr.heap.size, 0, none⟩) 1 1) 1 [.int .i64 ((Y : Int) * 8 + (k : Int))] rfl (by exact F.out) (by simp [Value.oneCell']) (.inr (by omega)) (by have := FF.out.2.2.1; unfold maxLen; omega) (by have := FF.out.2.2.1; omega) (by simp; omega) ((ordTo 8 s ++ ordRow 8 s k).length + 1) ((ordTo 8 s ++ ordRow 8 s (k + 1)).map natV) rfl (by rw [HST.out, HV.out, ← List.append_assoc, List.map_append (l₂ := [Y * 8 + k])]) ?_; intro g4 cap4 w4 hown hgrow hat hlt4)
                have ob := R2.out.1.alloc (.cells #[.int .i64 ((Y : Int) * 8 + (k : Int))] 3)
                have bb := R2.out.2.alloc R2.out.2.size (.cells #[.int .i64 ((Y : Int) * 8 + (k : Int))] 3)
                have b4 := bb.grown hgrow bb.size (fun k hk => (ob.lt k hk).1)
                have B4 := hid (And.intro hown b4)
                clear hown hgrow hat hlt4 ob bb b4 hz
                go_wp2_with fail
                go_roundg (gk - 1)
                case measure => have := FF.out.1; have := FF.out.2.1; omega
                case rel =>
                  refine ⟨k + 1, by have := FF.out.1; have := FF.out.2.1; omega, by go_num, ?_, B4.out.2⟩
                  have e : (ordTo 8 s ++ ordRow 8 s (k + 1)).length = (ordTo 8 s ++ ordRow 8 s k).length + 1 := by rw [HST.out, ← List.append_assoc, List.length_append (bs := [Y * 8 + k])]; rfl
                  have h5 := B4.out.1
                  rw [List.length_append] at h5
                  rw [e, List.length_append]
                  exact h5
              · rw [if_neg h1, List.append_nil] at hst
                have HST := hid hst
                clear hst hp hk hkl h1 hYk
                rcases h3 with h3 | ⟨h3, h4⟩
                all_goals
                  go_wp2_with fail
                  go_roundg (gk - 1)
                  case measure => have := FF.out.1; have := FF.out.2.1; omega
                  case rel => exact ⟨k + 1, by have := FF.out.1; have := FF.out.2.1; omega, by go_num, by rw [HST.out]; exact R2.out.1, R2.out.2⟩
            · have hst := ordRow_odd (n := 8) hYk hp
              have d2 : ((s : Int) % 2 == 0) = false := by simp; omega
              have hcase : (Y < 8 ∧ k < 8 ∧ decide ((Y : Int) < 8) = true ∧ decide ((k : Int) < 8) = true) ∨ (¬ (Y < 8 ∧ k < 8) ∧ (decide ((Y : Int) < 8) = false ∨ (decide ((Y : Int) < 8) = true ∧ decide ((k : Int) < 8) = false))) := by
                simp only [decide_eq_true_eq, decide_eq_false_iff_not]
                omega
              have FF := hid (And.intro hk (And.intro hkl (And.intro e3 hp)))
              have FY := hid (And.intro hYk hYlt)
              rcases hcase with ⟨h1, h2, h3, h4⟩ | ⟨h1, h3⟩
              · rw [if_pos ⟨h1, h2⟩] at hst
                have HST := hid hst
                have hz := R2.out.2.size
                clear hst hp hk hkl hYk
                have F := hid (blk_from1 (Blk.new wr 3 #[.int .i64 ((k : Int) * 8 + (Y : Int))]) 1)
                have hv : [Value.int .i64 ((k : Int) * 8 + (Y : Int))] = [k * 8 + Y].map natV := by
                  have := FY.out.1
                  simp only [List.map_cons, List.map_nil, natV]
                  congr 2 <;> omega
                have HV := hid hv
                clear hv
                go_wp2_with (at_builtin; refine wpList_append_form _ rfl (.tmp 43) (.tmp 49) _ rfl w.heap.size 3 i0 (.int .i64 0) 1 8 Tryz.underlying33 IP.out.1 IP.out.2.1 IP.out.2.2.1 IP.out.2.2.2 rfl (by omega) u3 (ordTo 8 s ++ ordRow 8 s k).length ((ordTo 8 s ++ ordRow 8 s k).map natV) rfl (by exact R2.out.1.alloc _) (.slice (some ⟨wr.heap.size, 0, none⟩) 1 1) 1 [.int .i64 ((k : Int) * 8 + (Y : Int))] rfl (by exact F.out) (by simp [Value.oneCell']) (.inr (by omega)) (by have := FF.out.2.2.1; unfold maxLen; omega) (by have := FF.out.2.2.1; omega) (by simp; omega) ((ordTo 8 s ++ ordRow 8 s k).length + 1) ((ordTo 8 s ++ ordRow 8 s (k + 1)).map natV) rfl (by rw [HST.out, HV.out, ← List.append_assoc, List.map_append (l₂ := [k * 8 + Y])]) ?_; intro g4 cap4 w4 hown hgrow hat hlt4)
                have ob := R2.out.1.alloc (.cells #[.int .i64 ((k : Int) * 8 + (Y : Int))] 3)
                have bb := R2.out.2.alloc R2.out.2.size (.cells #[.int .i64 ((k : Int) * 8 + (Y : Int))] 3)
                have b4 := bb.grown hgrow bb.size (fun k hk => (ob.lt k hk).1)
                have B4 := hid (And.intro hown b4)
                clear hown hgrow hat hlt4 ob bb b4 hz
                go_wp2_with fail
                go_roundg (gk - 1)
                case measure => have := FF.out.1; have := FF.out.2.1; omega
                case rel =>
                  refine ⟨k + 1, by have := FF.out.1; have := FF.out.2.1; omega, by go_num, ?_, B4.out.2⟩
                  have e : (ordTo 8 s ++ ordRow 8 s (k + 1)).length = (ordTo 8 s ++ ordRow 8 s k).length + 1 := by rw [HST.out, ← List.append_assoc, List.length_append (bs := [k * 8 + Y])]; rfl
                  have h5 := B4.out.1
                  rw [List.length_append] at h5
                  rw [e, List.length_append]
                  exact h5
              · rw [if_neg h1, List.append_nil] at hst
                have HST := hid hst
                clear hst hp hk hkl h1 hYk
                rcases h3 with h3 | ⟨h3, h4⟩
                all_goals
                  go_wp2_with fail
                  go_roundg (gk - 1)
                  case measure => have := FF.out.1; have := FF.out.2.1; omega
                  case rel => exact ⟨k + 1, by have := FF.out.1; have := FF.out.2.1; omega, by go_num, by rw [HST.out]; exact R2.out.1, R2.out.2⟩
          · obtain rfl : k = s + 1 := by omega
            have d4 : decide (((s + 1 : Nat) : Int) < (s : Int) + 1) = false := by simp
            have hst := ordTo_succ 8 s
            have HST := hid hst
            clear hst hk hkl
            go_wp2_with fail
            go_roundg (gk0 - 1)
            case measure => have := HS.out.1; have := HS.out.2; omega
            case rel => exact ⟨s + 1, by have := HS.out.1; have := HS.out.2; omega, by go_num, by rw [HST.out]; exact R2.out.1, R2.out.2⟩
      · obtain rfl : s = 15 := by omega
        go_wp2_with fail
        go_ret
        exact ⟨_, rfl, R.out.1, R.out.2⟩
set_option maxRecDepth 100000 in
set_option maxHeartbeats 4000000 in
theorem rorder_any (n : Nat) (hn : n = 4 ∨ n = 8) (w : World) : Calls Tryz.prog 68 #[.int .i64 (n : Int)] w (OrdRes (ordOf n) w) := by
  obtain ⟨i0, hi0, hz0, hz1, hz2⟩ := info_parts info_int1
  have IP := hid (And.intro hi0 (And.intro hz0 (And.intro hz1 hz2)))
  clear hi0 hz0 hz1 hz2
  rcases hn with rfl | rfl
  all_goals
    go_enter Tryz.func68, Tryz.ntmps68
    go_wp2_with fail
  · go_loopg [3, 4] 7 (fun j lv iv wr => ∃ s : Nat, s + j = 7 ∧ iv = .int .i64 s ∧ wr.ownsRow w.heap.size 3 1 lv (ordTo 4 s).length ((ordTo 4 s).map natV) ∧ Below w.heap.size w wr)
    case atStart => exact ⟨0, by omega, rfl, World.ownsRow_nil _ _ _ _, Below.refl _ _⟩
    case round =>
      obtain ⟨s, hs, rfl, hO, hB⟩ := hrel
      have R := hid (And.intro hO hB)
      by_cases hlt : s < 7
      · have d1 : decide ((s : Int) ≤ 6) = true := by simp; omega
        have HS := hid (And.intro hs hlt)
        clear hO hB hs
        obtain ⟨gk0, hgk0⟩ : ∃ g, g = gk := ⟨gk, rfl⟩
        subst hgk0
        go_wp2_with fail
        go_loopg [3, 5] (s + 1) (fun j lv iv wr => ∃ k : Nat, k + j = s + 1 ∧ iv = .int .i64 k ∧ wr.ownsRow w.heap.size 3 1 lv (ordTo 4 s ++ ordRow 4 s k).length ((ordTo 4 s ++ ordRow 4 s k).map natV) ∧ Below w.heap.size w wr)
        case atStart =>
          have e : ordTo 4 s ++ ordRow 4 s 0 = ordTo 4 s := List.append_nil _
          exact ⟨0, by omega, rfl, by rw [e]; exact R.out.1, R.out.2⟩
        case round =>
          obtain ⟨k, hk, rfl, hO, hB⟩ := hrel
          have R2 := hid (And.intro hO hB)
          clear hO hB
          by_cases hkl : k < s + 1
          · obtain ⟨e1, e2, e3⟩ := ord_step (n := 4) (s := s) (k := k) (by omega) (by omega)
            have hYk : (s - k) + k = s := by omega
            have hpar : s % 2 = 0 ∨ s % 2 = 1 := by omega
            have d4 : decide ((k : Int) ≤ (s : Int)) = true := by simp; omega
            have e4 : (s : Int) - (s : Int) + (k : Int) = (k : Int) := by omega
            generalize s - k = Y at *
            have hYlt : Y < 16 ∧ k < 16 := by omega
            rcases hpar with hp | hp
            · have hst := ordRow_even (n := 4) hYk hp
              have d2 : ((s : Int) % 2 == 0) = true := by simp; omega
              have hcase : (k < 4 ∧ Y < 4 ∧ decide ((Y : Int) < 4) = true ∧ decide ((k : Int) < 4) = true) ∨ (¬ (k < 4 ∧ Y < 4) ∧ (decide ((Y : Int) < 4) = false ∨ (decide ((Y : Int) < 4) = true ∧ decide ((k : Int) < 4) = false))) := by
                simp only [decide_eq_true_eq, decide_eq_false_iff_not]
                omega
              have FF := hid (And.intro hk (And.intro hkl (And.intro e3 hp)))
              have FY := hid (And.intro hYk hYlt)
              rcases hcase with ⟨h1, h2, h3, h4⟩ | ⟨h1, h3⟩
              · rw [if_pos ⟨h1, h2⟩] at hst
                have HST := hid hst
                have hz := R2.out.2.size
                clear hst hp hk hkl hYk
                have F := hid (blk_from1 (Blk.new wr 3 #[.int .i64 ((Y : Int) * 4 + (s : Int) - (Y : Int))]) 1)
                have hv : [Value.int .i64 ((Y : Int) * 4 + (s : Int) - (Y : Int))] = [Y * 4 + k].map natV := by
                  have := FY.out.1
                  simp only [List.map_cons, List.map_nil, natV]
                  congr 2 <;> omega
                have HV := hid hv
                clear hv
                go_wp2_with (at_builtin; refine wpList_append_form _ rfl (.tmp 42) (.tmp 50) _ rfl w.heap.size 3 i0 (.int .i64 0) 1 8 Tryz.underlying33 IP.out.1 IP.out.2.1 IP.out.2.2.1 IP.out.2.2.2 rfl (by omega) u3 (ordTo 4 s ++ ordRow 4 s k).length ((ordTo 4 s ++ ordRow 4 s k).map natV) rfl (by exact R2.out.1.alloc _) (.slice (some ⟨wr.heap.size, 0, none⟩) 1 1) 1 [.int .i64 ((Y : Int) * 4 + (s : Int) - (Y : Int))] rfl (by exact F.out) (by simp [Value.oneCell']) (.inr (by omega)) (by have := FF.out.2.2.1; unfold maxLen; omega) (by have := FF.out.2.2.1; omega) (by simp; omega) ((ordTo 4 s ++ ordRow 4 s k).length + 1) ((ordTo 4 s ++ ordRow 4 s (k + 1)).map natV) rfl (by rw [HST.out, HV.out, ← List.append_assoc, List.map_append (l₂ := [Y * 4 + k])]) ?_; intro g4 cap4 w4 hown hgrow hat hlt4)
                have ob := R2.out.1.alloc (.cells #[.int .i64 ((Y : Int) * 4 + (s : Int) - (Y : Int))] 3)
                have bb := R2.out.2.alloc R2.out.2.size (.cells #[.int .i64 ((Y : Int) * 4 + (s : Int) - (Y : Int))] 3)
                have b4 := bb.grown hgrow bb.size (fun k hk => (ob.lt k hk).1)
                have B4 := hid (And.intro hown b4)
                clear hown hgrow hat hlt4 ob bb b4 hz
                go_wp2_with fail
                go_roundg (gk - 1)
                case measure => have := FF.out.1; have := FF.out.2.1; omega
                case rel =>
                  refine ⟨k + 1, by have := FF.out.1; have := FF.out.2.1; omega, by go_num, ?_, B4.out.2⟩
                  have e : (ordTo 4 s ++ ordRow 4 s (k + 1)).length = (ordTo 4 s ++ ordRow 4 s k).length + 1 := by rw [HST.out, ← List.append_assoc, List.length_append (bs := [Y * 4 + k])]; rfl
                  have h5 := B4.out.1
                  rw [List.length_append] at h5
                  rw [e, List.length_append]
                  exact h5
              · rw [if_neg h1, List.append_nil] at hst
                have HST := hid hst
                clear hst hp hk hkl h1 hYk
                rcases h3 with h3 | ⟨h3, h4⟩
                all_goals
                  go_wp2_with fail
                  go_roundg (gk - 1)
                  case measure => have := FF.out.1; have := FF.out.2.1; omega
                  case rel => exact ⟨k + 1, by have := FF.out.1; have := FF.out.2.1; omega, by go_num, by rw [HST.out]; exact R2.out.1, R2.out.2⟩
            · have hst := ordRow_odd (n := 4) hYk hp
              have d2 : ((s : Int) % 2 == 0) = false := by simp; omega
              have hcase : (Y < 4 ∧ k < 4 ∧ decide ((k : Int) < 4) = true ∧ decide ((Y : Int) < 4) = true) ∨ (¬ (Y < 4 ∧ k < 4) ∧ (decide ((k : Int) < 4) = false ∨ (decide ((k : Int) < 4) = true ∧ decide ((Y : Int) < 4) = false))) := by
                simp only [decide_eq_true_eq, decide_eq_false_iff_not]
                omega
              have FF := hid (And.intro hk (And.intro hkl (And.intro e3 hp)))
              have FY := hid (And.intro hYk hYlt)
              rcases hcase with ⟨h1, h2, h3, h4⟩ | ⟨h1, h3⟩
              · rw [if_pos ⟨h1, h2⟩] at hst
                have HST := hid hst
                have hz := R2.out.2.size
                clear hst hp hk hkl hYk
                have F := hid (blk_from1 (Blk.new wr 3 #[.int .i64 ((k : Int) * 4 + (s : Int) - (k : Int))]) 1)
                have hv : [Value.int .i64 ((k : Int) * 4 + (s : Int) - (k : Int))] = [k * 4 + Y].map natV := by
                  have := FY.out.1
                  simp only [List.map_cons, List.map_nil, natV]
                  congr 2 <;> omega
                have HV := hid hv
                clear hv
                go_wp2_with (at_builtin; refine wpList_append_form _ rfl (.tmp 42) (.tmp 50) _ rfl w.heap.size 3 i0 (.int .i64 0) 1 8 Tryz.underlying33 IP.out.1 IP.out.2.1 IP.out.2.2.1 IP.out.2.2.2 rfl (by omega) u3 (ordTo 4 s ++ ordRow 4 s k).length ((ordTo 4 s ++ ordRow 4 s k).map natV) rfl (by exact R2.out.1.alloc _) (.slice (some ⟨wr.heap.size, 0, none⟩) 1 1) 1 [.int .i64 ((k : Int) * 4 + (s : Int) - (k : Int))] rfl (by exact F.out) (by simp [Value.oneCell']) (.inr (by omega)) (by have := FF.out.2.2.1; unfold maxLen; omega) (by have := FF.out.2.2.1; omega) (by simp; omega) ((ordTo 4 s ++ ordRow 4 s k).length + 1) ((ordTo 4 s ++ ordRow 4 s (k + 1)).map natV) rfl (by rw [HST.out, HV.out, ← List.append_assoc, List.map_append (l₂ := [k * 4 + Y])]) ?_; intro g4 cap4 w4 hown hgrow hat hlt4)
                have ob := R2.out.1.alloc (.cells #[.int .i64 ((k : Int) * 4 + (s : Int) - (k : Int))] 3)
                have bb := R2.out.2.alloc R2.out.2.size (.cells #[.int .i64 ((k : Int) * 4 + (s : Int) - (k : Int))] 3)
                have b4 := bb.grown hgrow bb.size (fun k hk => (ob.lt k hk).1)
                have B4 := hid (And.intro hown b4)
                clear hown hgrow hat hlt4 ob bb b4 hz
                go_wp2_with fail
                go_roundg (gk - 1)
                case measure => have := FF.out.1; have := FF.out.2.1; omega
                case rel =>
                  refine ⟨k + 1, by have := FF.out.1; have := FF.out.2.1; omega, by go_num, ?_, B4.out.2⟩
                  have e : (ordTo 4 s ++ ordRow 4 s (k + 1)).length = (ordTo 4 s ++ ordRow 4 s k).length + 1 := by rw [HST.out, ← List.append_assoc, List.length_append (bs := [k * 4 + Y])]; rfl
                  have h5 := B4.out.1
                  rw [List.length_append] at h5
                  rw [e, List.length_append]
                  exact h5
              · rw [if_neg h1, List.append_nil] at hst
                have HST := hid hst
                clear hst hp hk hkl h1 hYk
                rcases h3 with h3 | ⟨h3, h4⟩
                all_goals
                  go_wp2_with fail
                  go_roundg (gk - 1)
                  case measure => have := FF.out.1; have := FF.out.2.1; omega
                  case rel => exact ⟨k + 1, by have := FF.out.1; have := FF.out.2.1; omega, by go_num, by rw [HST.out]; exact R2.out.1, R2.out.2⟩
          · obtain rfl : k = s + 1 := by omega
            have d4 : decide (((s + 1 : Nat) : Int) ≤ (s : Int)) = false := by simp; omega
            have hst := ordTo_succ 4 s
            have HST := hid hst
            clear hst hk hkl
            go_wp2_with fail
            go_roundg (gk0 - 1)
            case measure => have := HS.out.1; have := HS.out.2; omega
            case rel => exact ⟨s + 1, by have := HS.out.1; have := HS.out.2; omega, by go_num, by rw [HST.out]; exact R2.out.1, R2.out.2⟩
      · obtain rfl : s = 7 := by omega
        go_wp2_with fail
        go_ret
        exact ⟨_, rfl, R.out.1, R.out.2⟩
  · go_loopg [3, 4] 15 (fun j lv iv wr => ∃ s : Nat, s + j = 15 ∧ iv = .int .i64 s ∧ wr.ownsRow w.heap.size 3 1 lv (ordTo 8 s).length ((ordTo 8 s).map natV) ∧ Below w.heap.size w wr)
    case atStart => exact ⟨0, by omega, rfl, World.ownsRow_nil _ _ _ _, Below.refl _ _⟩
    case round =>
      obtain ⟨s, hs, rfl, hO, hB⟩ := hrel
      have R := hid (And.intro hO hB)
      by_cases hlt : s < 15
      · have d1 : decide ((s : Int) ≤ 14) = true := by simp; omega
        have HS := hid (And.intro hs hlt)
        clear hO hB hs
        obtain ⟨gk0, hgk0⟩ : ∃ g, g = gk := ⟨gk, rfl⟩
        subst hgk0
        go_wp2_with fail
        go_loopg [3, 5] (s + 1) (fun j lv iv wr => ∃ k : Nat, k + j = s + 1 ∧ iv = .int .i64 k ∧ wr.ownsRow w.heap.size 3 1 lv (ordTo 8 s ++ ordRow 8 s k).length ((ordTo 8 s ++ ordRow 8 s k).map natV) ∧ Below w.heap.size w wr)
        case atStart =>
          have e : ordTo 8 s ++ ordRow 8 s 0 = ordTo 8 s := List.append_nil _
          exact ⟨0, by omega, rfl, by rw [e]; exact R.out.1, R.out.2⟩
        case round =>
          obtain ⟨k, hk, rfl, hO, hB⟩ := hrel
          have R2 := hid (And.intro hO hB)
          clear hO hB
          by_cases hkl : k < s + 1
          · obtain ⟨e1, e2, e3⟩ := ord_step (n := 8) (s := s) (k := k) (by omega) (by omega)
            have hYk : (s - k) + k = s := by omega
            have hpar : s % 2 = 0 ∨ s % 2 = 1 := by omega
            have d4 : decide ((k : Int) ≤ (s : Int)) = true := by simp; omega
            have e4 : (s : Int) - (s : Int) + (k : Int) = (k : Int) := by omega
            generalize s - k = Y at *
            have hYlt : Y < 16 ∧ k < 16 := by omega
            rcases hpar with hp | hp
            · have hst := ordRow_even (n := 8) hYk hp
              have d2 : ((s : Int) % 2 == 0) = true := by simp; omega
              have hcase : (k < 8 ∧ Y < 8 ∧ decide ((Y : Int) < 8) = true ∧ decide ((k : Int) < 8) = true) ∨ (¬ (k < 8 ∧ Y < 8) ∧ (decide ((Y : Int) < 8) = false ∨ (decide ((Y : Int) < 8) = true ∧ decide ((k : Int) < 8) = false))) := by
                simp only [decide_eq_true_eq, decide_eq_false_iff_not]
                omega
              have FF := hid (And.intro hk (And.intro hkl (And.intro e3 hp)))
              have FY := hid (And.intro hYk hYlt)
              rcases hcase with ⟨h1, h2, h3, h4⟩ | ⟨h1, h3⟩
              · rw [if_pos ⟨h1, h2⟩] at hst
                have HST := hid hst
                have hz := R2.out.2.size
                clear hst hp hk hkl hYk
                have F := hid (blk_from1 (Blk.new wr 3 #[.int .i64 ((Y : Int) * 8 + (s : Int) - (Y : Int))]) 1)
                have hv : [Value.int .i64 ((Y : Int) * 8 + (s : Int) - (Y : Int))] = [Y * 8 + k].map natV := by
                  have := FY.out.1
                  simp only [List.map_cons, List.map_nil, natV]
                  congr 2 <;> omega
                have HV := hid hv
                clear hv
                go_wp2_with (at_builtin; refine wpList_append_form _ rfl (.tmp 42) (.tmp 50) _ rfl w.heap.size 3 i0 (.int .i64 0) 1 8 Tryz.underlying33 IP.out.1 IP.out.2.1 IP.out.2.2.1 IP.out.2.2.2 rfl (by omega) u3 (ordTo 8 s ++ ordRow 8 s k).length ((ordTo 8 s ++ ordRow 8 s k).map natV) rfl (by exact R2.out.1.alloc _) (.slice (some ⟨wr.heap.size, 0, none⟩) 1 1) 1 [.int .i64 ((Y : Int) * 8 + (s : Int) - (Y : Int))] rfl (by exact F.out) (by simp [Value.oneCell']) (.inr (by omega)) (by have := FF.out.2.2.1; unfold maxLen; omega) (by have := FF.out.2.2.1; omega) (by simp; omega) ((ordTo 8 s ++ ordRow 8 s k).length + 1) ((ordTo 8 s ++ ordRow 8 s (k + 1)).map natV) rfl (by rw [HST.out, HV.out, ← List.append_assoc, List.map_append (l₂ := [Y * 8 + k])]) ?_; intro g4 cap4 w4 hown hgrow hat hlt4)
                have ob := R2.out.1.alloc (.cells #[.int .i64 ((Y : Int) * 8 + (s : Int) - (Y : Int))] 3)
                have bb := R2.out.2.alloc R2.out.2.size (.cells #[.int .i64 ((Y : Int) * 8 + (s : Int) - (Y : Int))] 3)
                have b4 := bb.grown hgrow bb.size (fun k hk => (ob.lt k hk).1)
                have B4 := hid (And.intro hown b4)
                clear hown hgrow hat hlt4 ob bb b4 hz
                go_wp2_with fail
                go_roundg (gk - 1)
                case measure => have := FF.out.1; have := FF.out.2.1; omega
                case rel =>
                  refine ⟨k + 1, by have := FF.out.1; have := FF.out.2.1; omega, by go_num, ?_, B4.out.2⟩
                  have e : (ordTo 8 s ++ ordRow 8 s (k + 1)).length = (ordTo 8 s ++ ordRow 8 s k).length + 1 := by rw [HST.out, ← List.append_assoc, List.length_append (bs := [Y * 8 + k])]; rfl
                  have h5 := B4.out.1
                  rw [List.length_append] at h5
                  rw [e, List.length_append]
                  exact h5
              · rw [if_neg h1, List.append_nil] at hst
                have HST := hid hst
                clear hst hp hk hkl h1 hYk
                rcases h3 with h3 | ⟨h3, h4⟩
                all_goals
                  go_wp2_with fail
                  go_roundg (gk - 1)
                  case measure => have := FF.out.1; have := FF.out.2.1; omega
                  case rel => exact ⟨k + 1, by have := FF.out.1; have := FF.out.2.1; omega, by go_num, by rw [HST.out]; exact R2.out.1, R2.out.2⟩
            · have hst := ordRow_odd (n := 8) hYk hp
              have d2 : ((s : Int) % 2 == 0) = false := by simp; omega
              have hcase : (Y < 8 ∧ k < 8 ∧ decide ((k : Int) < 8) = true ∧ decide ((Y : Int) < 8) = true) ∨ (¬ (Y < 8 ∧ k < 8) ∧ (decide ((k : Int) < 8) = false ∨ (decide ((k : Int) < 8) = true ∧ decide ((Y : Int) < 8) = false))) := by
                simp only [decide_eq_true_eq, decide_eq_false_iff_not]
                omega
              have FF := hid (And.intro hk (And.intro hkl (And.intro e3 hp)))
              have FY := hid (And.intro hYk hYlt)
              rcases hcase with ⟨h1, h2, h3, h4⟩ | ⟨h1, h3⟩
              · rw [if_pos ⟨h1, h2⟩] at hst
                have HST := hid hst
                have hz := R2.out.2.size
                clear hst hp hk hkl hYk
                have F := hid (blk_from1 (Blk.new wr 3 #[.int .i64 ((k : Int) * 8 + (s : Int) - (k : Int))]) 1)
                have hv : [Value.int .i64 ((k : Int) * 8 + (s : Int) - (k : Int))] = [k * 8 + Y].map natV := by
                  have := FY.out.1
                  simp only [List.map_cons, List.map_nil, natV]
                  congr 2 <;> omega
                have HV := hid hv
                clear hv
                go_wp2_with (at_builtin; refine wpList_append_form _ rfl (.tmp 42) (.tmp 50) _ rfl w.heap.size 3 i0 (.int .i64 0) 1 8 Tryz.underlying33 IP.out.1 IP.out.2.1 IP.out.2.2.1 IP.out.2.2.2 rfl (by omega) u3 (ordTo 8 s ++ ordRow 8 s k).length ((ordTo 8 s ++ ordRow 8 s k).map natV) rfl (by exact R2.out.1.alloc _) (.slice (some ⟨wr.heap.size, 0, none⟩) 1 1) 1 [.int .i64 ((k : Int) * 8 + (s : Int) - (k : Int))] rfl (by exact F.out) (by simp [Value.oneCell']) (.inr (by omega)) (by have := FF.out.2.2.1; unfold maxLen; omega) (by have := FF.out.2.2.1; omega) (by simp; omega) ((ordTo 8 s ++ ordRow 8 s k).length + 1) ((ordTo 8 s ++ ordRow 8 s (k + 1)).map natV) rfl (by rw [HST.out, HV.out, ← List.append_assoc, List.map_append (l₂ := [k * 8 + Y])]) ?_; intro g4 cap4 w4 hown hgrow hat hlt4)
                have ob := R2.out.1.alloc (.cells #[.int .i64 ((k : Int) * 8 + (s : Int) - (k : Int))] 3)
                have bb := R2.out.2.alloc R2.out.2.size (.cells #[.int .i64 ((k : Int) * 8 + (s : Int) - (k : Int))] 3)
                have b4 := bb.grown hgrow bb.size (fun k hk => (ob.lt k hk).1)
                have B4 := hid (And.intro hown b4)
                clear hown hgrow hat hlt4 ob bb b4 hz
                go_wp2_with fail
                go_roundg (gk - 1)
                case measure => have := FF.out.1; have := FF.out.2.1; omega
                case rel =>
                  refine ⟨k + 1, by have := FF.out.1; have := FF.out.2.1; omega, by go_num, ?_, B4.out.2⟩
                  have e : (ordTo 8 s ++ ordRow 8 s (k + 1)).length = (ordTo 8 s ++ ordRow 8 s k).length + 1 := by rw [HST.out, ← List.append_assoc, List.length_append (bs := [k * 8 + Y])]; rfl
                  have h5 := B4.out.1
                  rw [List.length_append] at h5
                  rw [e, List.length_append]
                  exact h5
              · rw [if_neg h1, List.append_nil] at hst
                have HST := hid hst
                clear hst hp hk hkl h1 hYk
                rcases h3 with h3 | ⟨h3, h4⟩
                all_goals
                  go_wp2_with fail
                  go_roundg (gk - 1)
                  case measure => have := FF.out.1; have := FF.out.2.1; omega
                  case rel => exact ⟨k + 1, by have := FF.out.1; have := FF.out.2.1; omega, by go_num, by rw [HST.out]; exact R2.out.1, R2.out.2⟩
          · obtain rfl : k = s + 1 := by omega
            have d4 : decide (((s + 1 : Nat) : Int) ≤ (s : Int)) = false := by simp; omega
            have hst := ordTo_succ 8 s
            have HST := hid hst
            clear hst hk hkl
            go_wp2_with fail
            go_roundg (gk0 - 1)
            case measure => have := HS.out.1; have := HS.out.2; omega
            case rel => exact ⟨s + 1, by have := HS.out.1; have := HS.out.2; omega, by go_num, by rw [HST.out]; exact R2.out.1, R2.out.2⟩
      · obtain rfl : s = 15 := by omega
        go_wp2_with fail
        go_ret
        exact ⟨_, rfl, R.out.1, R.out.2⟩
end Go.Proofs.YtkkgpdejmcpcpaaGreatDoor

