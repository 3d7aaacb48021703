/- Parts: XRefEncMore, XModBegin, XModBase, XModWr, XModRd. -/
import Derived.Test.YtkkgpdejmcpcpaaDoorM09
import Derived.Test.YtkkgpdejmcpcpaaDoorM03
/- The document's encoder: Flat, Code, NewEncoder, End. -/
namespace Go.Proofs.YtkkgpdejmcpcpaaDoor
open Go.RowKit

theorem own_lt {w : World} {base n : Nat} {t : TypeId} {v : Value} {xs : List Value} (h : w.ownsRow base t 1 v n xs) : ∀ k, v.ownBlock = some k → k < w.heap.size := fun k hk => (h.lt k hk).2

def REndRel (L : List UInt8) (k : Nat) (v : Value) : Prop :=
  ∃ (m t : List UInt8) (n : Nat), k = n ∧ v = .int .i64 (n : Nat) ∧ m.length = n ∧ L = m ++ t ∧ trim L = trim m

end Go.Proofs.YtkkgpdejmcpcpaaDoor

/- The model's chances at first. -/
namespace Go.Proofs.YtkkgpdejmcpcpaaDoor
open Go.RowKit

/-- Chances as cells. -/
def chV (P : List Nat) : Array Value := (P.map fun p => Value.int .i64 (p : Nat)).toArray
theorem chV_size (P : List Nat) : (chV P).size = P.length := by simp [chV]
theorem chV_get (P : List Nat) (i : Nat) (h : i < P.length) : (chV P)[i]? = some (.int .i64 (P.getD i 0 : Nat)) := by
  simp [chV, h, List.getD]
theorem chV_set (P : List Nat) (i v : Nat) : (chV P).setIfInBounds i (.int .i64 (v : Nat)) = chV (P.set i v) := by
  simp [chV, List.map_set]
theorem chV_one (P : List Nat) : (chV P).all (·.oneCell') = true := by
  simp [chV, Value.oneCell']
def first64 : List Nat := List.replicate 64 1024

theorem setRow_other' (w : World) (g k : Nat) (cs : Array Value) (h : k ≠ g) : (w.setRow g cs).heap[k]? = w.heap[k]? := setRow_other w g k cs h
theorem Only.setRow {S : Nat → Prop} {w w' : World} (h : Only S w w') {g : Nat} (hg : g < w.heap.size → S g) (cs : Array Value) : Only S w (w'.setRow g cs) :=
  ⟨h.os, h.tape, h.output, by simpa using h.size, fun k hk hn => (setRow_other w' g k cs (by
    rintro rfl
    exact hn (hg hk))).trans (h.block k hk hn)⟩
theorem Blk.row {w : World} {g : Nat} {t : TypeId} {cs : Array Value} (h : Blk w g t cs) (cs' : Array Value) : Blk (w.setRow g cs') g t cs' := setRow_heap w g cs cs' t _ h
theorem below_of_only {S : Nat → Prop} {w w' : World} (h : Only S w w') (hs : ∀ k, k < w.heap.size → ¬ S k) : Below w.heap.size w w' := ⟨h.os, h.tape, h.output, h.size, fun k hk => h.block k hk (hs k hk)⟩

def beginMid (j : Nat) : List Nat := List.replicate j 1024 ++ List.replicate (64 - j) 0
theorem beginMid_len (j : Nat) (h : j ≤ 64) : (beginMid j).length = 64 := by simp [beginMid]; omega
theorem beginMid_get (j : Nat) (h : j < 64) : (beginMid j).getD j 0 = 0 := by
  unfold beginMid
  rw [List.getD_eq_getElem?_getD, List.getElem?_append_right (by simp)]
  simp [show 0 < 64 - j by omega]
theorem beginMid_set (j : Nat) (h : j < 64) : (beginMid j).set j 1024 = beginMid (j + 1) := by
  unfold beginMid
  rw [List.set_append_right _ _ (by simp)]
  rw [show 64 - j = (64 - (j + 1)) + 1 by omega, List.replicate_succ, List.replicate_succ']
  simp

set_option maxRecDepth 100000 in
set_option maxHeartbeats 800000 in
theorem begin_any (w : World) : Calls Tryd.prog 35 #[] w fun e w' => e = .returned (.agg (chV first64)) ∧ Below w.heap.size w w' := by
  have hz : chV (beginMid 0) = Array.replicate 64 (.int .i64 0) := by rfl
  have hs : (Tryd.prog.info? 85).map (·.size) = some 64 := by kernel_rfl
  go_enter Tryd.func35, Tryd.ntmps35
  go_wp2_with fail
  refine wp_named (fun W => Blk W w.heap.size 85 (chV (beginMid 0)) ∧ Blk W (w.heap.size + 1) 85 (chV (beginMid 0)) ∧ Only (fun _ => False) w W) ?_ ?_
  · exact ⟨(Blk.new w _ (chV (beginMid 0))).alloc _, Blk.newAt _ _ (chV (beginMid 0)) (by simp), ((Only.refl _ w).alloc _).alloc _⟩
  rintro W ⟨hA, hB, hO⟩
  generalize hH : w.heap.size = H at *
  have Z := hid (And.intro hA (And.intro hB hO))
  have SZ := hid (And.intro hs hH)
  clear hA hB hO hz hs hH
  go_loopg [3] 64 (fun k i wr => ∃ j : Nat, j + k = 64 ∧ i = .int .i64 j ∧ Blk wr (H + 1) 85 (chV (beginMid j)) ∧ Only (· = H + 1) W wr)
  case atStart => exact ⟨0, rfl, rfl, Z.out.2.1, Only.refl _ _⟩
  case round =>
    obtain ⟨j, hj, rfl, hb, ho⟩ := hrel
    by_cases hlt : j < 64
    · have h0 := hb.cell j
      have f0 := hb.frozen j
      rw [chV_get _ _ (by rw [beginMid_len _ (by omega)]; omega), beginMid_get j hlt] at h0
      have X := hid (And.intro hb ho)
      clear hb ho
      have k0 : (0 : Int) ≤ (j : Int) := by omega
      have k1 : (j : Int) < 64 := by omega
      go_wp2
      go_roundg (gk - 1)
      case measure => omega
      case rel =>
        refine ⟨j + 1, by omega, by go_num, ?_, X.out.2.put (by rfl) j _⟩
        have := X.out.1.put j (.int .i64 (1024 : Nat))
        rw [chV_set, beginMid_set j hlt] at this
        exact this
    · obtain rfl : j = 64 := by omega
      have hA : Blk wr H 85 (chV (beginMid 0)) := Z.out.1.keep ho (by omega)
      have X := hid (And.intro hb (And.intro ho hA))
      have hsz : (chV (beginMid 64)).size = 64 := by rw [chV_size, beginMid_len _ (by omega)]
      have HS := hid hsz
      clear hb ho hA hsz
      go_wp2_with
        (first
          | (refine wpList_load_row rfl 85 _ rfl (H + 1) rfl 85 (chV (beginMid 64)) (0, 0) _ X.out.1 Tryd.underlying85 rfl (by rw [HS.out]; exact SZ.out.1) ?_)
          | (refine wpList_store_row rfl 85 _ _ rfl H (chV (beginMid 64)) rfl rfl 85 (chV (beginMid 0)) X.out.2.2 (by rw [HS.out]; exact SZ.out.1) (by rw [chV_size, chV_size, beginMid_len _ (by omega), beginMid_len _ (by omega)]) (chV_one _) ?_))
      refine bodyPost_ret (v := .agg (chV (beginMid 64))) (by exact results_cell_row (by rfl) _ _ H 85 (chV (beginMid 64)) (0, 0) _ (by rfl) (X.out.2.2.row _) Tryd.underlying85 (by rfl) (by rw [HS.out]; exact SZ.out.1)) (by rfl) ⟨rfl, ?_⟩
      have hH := SZ.out.2
      rw [← hH]
      refine below_of_only (S := fun k => k = H ∨ k = H + 1) ?_ (fun k hk => by omega)
      refine Only.setRow ?_ (fun _ => .inl hH) _
      exact (Z.out.2.2.mono (fun _ _ h => h.elim)).trans (X.out.2.1.mono (fun k _ h => .inr h))
end Go.Proofs.YtkkgpdejmcpcpaaDoor

/- The model: learn, Chance, context, bound. -/
namespace Go.Proofs.YtkkgpdejmcpcpaaDoor
open Go.RowKit

theorem context_yes (c : Int) (w : World) (h1 : 0 ≤ c) (h2 : c < 64) : Calls Tryd.prog 96 #[.int .i64 c] w fun e w' => e = .returned (.bool true) ∧ w = w' := by
  go_enter Tryd.func96, Tryd.ntmps96
  go_wp2
  go_ret
  exact ⟨rfl, rfl⟩
theorem context_no (c : Int) (w : World) (h : c < 0 ∨ 64 ≤ c) : Calls Tryd.prog 96 #[.int .i64 c] w fun e w' => e = .returned (.bool false) ∧ w = w' := by
  rcases h with h | h
  · go_enter Tryd.func96, Tryd.ntmps96
    go_wp2
    go_ret
    exact ⟨rfl, rfl⟩
  · have h' : 0 ≤ c := by omega
    have h2 : decide (c < 64) = false := by simp; omega
    go_enter Tryd.func96, Tryd.ntmps96
    go_wp2
    go_ret
    exact ⟨rfl, rfl⟩
theorem bound_any (v lo hi : Int) (w : World) : Calls Tryd.prog 51 #[.int .i64 v, .int .i64 lo, .int .i64 hi] w fun e w' => e = .returned (.int .i64 (cut v lo hi)) ∧ w = w' := by
  go_enter Tryd.func51, Tryd.ntmps51
  go_wp2
  go_ret
  exact ⟨rfl, rfl⟩

set_option maxRecDepth 100000 in
set_option maxHeartbeats 400000 in
theorem learn_any (b c p : Nat) (u : Bool) (w : World) (hc : c < 64) (hp : w.cell? ⟨b, c, none⟩ = some (.int .i64 p)) (hf : w.frozen? ⟨b, c, none⟩ = false) (hp1 : p ≤ 2017) :
    Calls Tryd.prog 98 #[.pointer (some ⟨b, 0, none⟩), .int .i64 c, .bool u] w fun e w' => e = .returned (.tuple #[]) ∧ w' = (w.setCell ⟨b, c, none⟩ (.int .i64 (learnP p u : Nat))).drew := by
  have c0 : (0 : Int) ≤ (c : Int) := by omega
  have c1 : (c : Int) < 64 := by omega
  cases u with
  | true =>
    have e : (p : Int) - (p : Int) / 32 = ((learnP p true : Nat) : Int) := by simp only [learnP]; simp; omega
    have E := hid e
    clear e
    go_enter Tryd.func98, Tryd.ntmps98
    go_wp2
    go_region
    go_wp2
    go_end0
    rw [← E.out]
    exact ⟨rfl, rfl⟩
  | false =>
    have e : (p : Int) + (2048 - (p : Int)) / 32 = ((learnP p false : Nat) : Int) := by simp only [learnP]; simp; omega
    have E := hid e
    clear e
    go_enter Tryd.func98, Tryd.ntmps98
    go_wp2
    go_region
    go_wp2
    go_end0
    rw [← E.out]
    exact ⟨rfl, rfl⟩

end Go.Proofs.YtkkgpdejmcpcpaaDoor

/- The model's writer. -/
namespace Go.Proofs.YtkkgpdejmcpcpaaDoor
open Go.RowKit

def modCells (P : List Nat) (q : Value) : Array Value := (P.map (fun p => Value.int .i64 (p : Nat)) ++ [q]).toArray
theorem mod_get (P : List Nat) (q : Value) (i : Nat) (h : i < P.length) : (modCells P q)[i]? = some (.int .i64 (P.getD i 0 : Nat)) := by
  simp [modCells, h, List.getElem?_append_left, List.getD]
theorem mod_last (P : List Nat) (q : Value) (h : P.length = 64) : (modCells P q)[64]? = some q := by
  simp [modCells, h]
theorem mod_set (P : List Nat) (q : Value) (i v : Nat) (h : i < P.length) : (modCells P q).setIfInBounds i (.int .i64 (v : Nat)) = modCells (P.set i v) q := by
  simp [modCells, List.map_set, h]

structure WrAt (w : World) (b eb : Nat) (v : Value) (s : Wr) : Prop where
  blk : Blk w b 94 (modCells s.P (.pointer (some ⟨eb, 0, none⟩)))
  enc : EncAt w eb v s.e
def Fw (b eb : Nat) (v : Value) (k : Nat) : Prop := k = b ∨ Fp eb v k
theorem WrAt.ne {w : World} {b eb : Nat} {v : Value} {s : Wr} (h : WrAt w b eb v s) : b ≠ eb := h.blk.apart h.enc.blk (by decide)
theorem enc_far {w w' : World} {b : Nat} {v : Value} {e : Enc} {S : Nat → Prop} (h : EncAt w b v e) (ho : Only S w w') (h1 : ¬ S b) (h2 : ∀ k, v.ownBlock = some k → ¬ S k) : EncAt w' b v e := by
  refine ⟨h.blk.keep ho h1, ⟨h.own.1, ?_⟩, h.len⟩
  rcases h.own.2 with hn | ⟨g, cap, cur, hv, hb, hg, hr⟩
  · exact .inl hn
  · exact .inr ⟨g, cap, cur, hv, hb, Blk.keep hg ho (h2 g (by rw [hv]; rfl)), hr⟩
theorem enc_blk_ne {w : World} {b eb : Nat} {v : Value} {e : Enc} {t : TypeId} {cs : Array Value} (h : EncAt w eb v e) (hb : Blk w b t cs) (ht : 5 ≠ t) : ∀ k, v.ownBlock = some k → b ≠ k := by
  intro k hk
  rcases h.own.2 with ⟨rfl, _⟩ | ⟨g, cap, cur, rfl, _, hg, _⟩
  · simp [Value.ownBlock] at hk
  · simp [Value.ownBlock] at hk
    subst hk
    exact fun e => ht (by subst e; exact (Blk.uniq (t := 5) hg hb).1)
structure Wr.Ok (s : Wr) (lim : Nat) : Prop where
  P : POk s.P
  e : s.e.Ok lim
def WrMoved (w : World) (b eb : Nat) (v : Value) (s : Wr) (w' : World) : Prop := ∃ v', WrAt w' b eb v' s ∧ Only (Fw b eb v) w w' ∧ Fresh w v v'

set_option maxRecDepth 100000 in
set_option maxHeartbeats 400000 in
theorem wr_flat (b eb : Nat) (v : Value) (u : Bool) (s : Wr) (w : World) (hs : WrAt w b eb v s) (ho : s.Ok 1000000000) :
    Calls Tryd.prog 104 #[.pointer (some ⟨b, 0, none⟩), .bool u] w fun e w' => e = .returned (.bool u) ∧ WrMoved w b eb v (s.flat u).2 w' := by
  have h64 := hs.blk.cell 64
  rw [mod_last _ _ ho.P.len] at h64
  have S := hid (And.intro hs ho)
  clear hs ho
  go_enter Tryd.func104, Tryd.ntmps104
  go_wp2_with fail
  refine (enc_flat eb v u s.e _ S.out.1.enc S.out.2.e).mono ?_
  rintro y w' ⟨rfl, hp⟩
  have P := hid hp
  clear hp
  go_wp2
  go_ret
  obtain ⟨v', h1, h2, h3⟩ := P.out
  obtain ⟨hs, _⟩ := S.out
  refine ⟨rfl, v', ⟨?_, h1⟩, h2.mono (fun _ _ h => .inr h), h3⟩
  refine hs.blk.keep h2 ?_
  rintro (h | h)
  · exact hs.ne h
  · exact enc_blk_ne hs.enc hs.blk (by decide) _ h rfl

set_option maxRecDepth 100000 in
set_option maxHeartbeats 400000 in
theorem wr_bit_out (b eb : Nat) (v : Value) (c : Int) (u : Bool) (s : Wr) (w : World) (hs : WrAt w b eb v s) (ho : s.Ok 1000000000) (hc : c < 0 ∨ 64 ≤ c) :
    Calls Tryd.prog 102 #[.pointer (some ⟨b, 0, none⟩), .int .i64 c, .bool u] w fun e w' => e = .returned (.bool u) ∧ WrMoved w b eb v (s.flat u).2 w' := by
  have S := hid (And.intro hs ho)
  clear hs ho
  go_enter Tryd.func102, Tryd.ntmps102
  go_wp2_with
    (first
      | (go_at_call 96
         refine (context_no c _ hc).mono ?_
         rintro e w' ⟨rfl, rfl⟩)
      | (go_at_call 104
         refine (wr_flat b eb v u s _ S.out.1 S.out.2).mono ?_
         rintro y w' ⟨rfl, hp⟩
         have P := hid hp
         clear hp))
  go_ret
  exact ⟨rfl, P.out⟩

set_option maxRecDepth 100000 in
set_option maxHeartbeats 400000 in
theorem wr_bit (b eb c : Nat) (v : Value) (u : Bool) (s : Wr) (w : World) (hs : WrAt w b eb v s) (ho : s.Ok 1000000000) (hc : c < 64) :
    Calls Tryd.prog 102 #[.pointer (some ⟨b, 0, none⟩), .int .i64 c, .bool u] w fun e w' => e = .returned (.bool u) ∧ WrMoved w b eb v (s.bit c u).2 w' := by
  have h64 := hs.blk.cell 64
  rw [mod_last _ _ ho.P.len] at h64
  have hcc := hs.blk.cell c
  have hcl : c < s.P.length := by rw [ho.P.len]; exact hc
  rw [mod_get _ _ _ hcl] at hcc
  have c0 : (0 : Int) ≤ (c : Int) := by omega
  have c1 : (c : Int) < 64 := by omega
  have hp1 := ho.P.lo c hc
  have hp2 := ho.P.hi c hc
  have S := hid (And.intro hs ho)
  clear hs ho
  generalize hpp : s.P.getD c 0 = p at *
  have PP := hid hpp
  clear hpp
  go_enter Tryd.func102, Tryd.ntmps102
  go_wp2_with (go_at_call 96; refine (context_yes c _ (by omega) (by omega)).mono ?_; rintro e w' ⟨rfl, rfl⟩)
  go_cut [] (fun W => ∃ v', EncAt W eb v' (s.e.narrow (s.e.r / 2048 * p) u) ∧ Only (Fp eb v) w W ∧ Fresh w v v')
  case first =>
    go_region_with (go_at_call 105; refine (enc_code eb p v u s.e _ (by exact enc_drew S.out.1.enc) S.out.2.e (by omega) (by omega)).mono ?_; rintro y w' ⟨rfl, hp⟩)
    all_goals
      go_wp2_with fail
      go_meet
      obtain ⟨v', h1, h2, h3⟩ := hp
      exact ⟨v', h1, (Only.refl _ w).drew.trans h2, h3⟩
  case rest =>
    obtain ⟨v', h1, h2, h3⟩ := hcut
    have hnb : ¬ Fp eb v b := by
      rintro (h | h)
      · exact S.out.1.ne h
      · exact enc_blk_ne S.out.1.enc S.out.1.blk (by decide) _ h rfl
    have hb := S.out.1.blk.keep h2 hnb
    have hcc' := hb.cell c
    rw [mod_get _ _ _ hcl, PP.out] at hcc'
    have fcc' := hb.frozen c
    have X := hid (And.intro h1 (And.intro h2 (And.intro h3 hb)))
    clear h1 h2 h3 hb hnb hcc h64
    go_wp2_with (go_at_call 98; refine (learn_any b c p u _ hc (by assumption) (by assumption) (by omega)).mono ?_; rintro y w' ⟨rfl, rfl⟩)
    go_ret
    obtain ⟨h1, h2, h3, hb⟩ := X.out
    have hne : b ≠ eb := S.out.1.ne
    refine ⟨rfl, v', ⟨?_, ?_⟩, ?_, ?_⟩
    · have := (hb.put c (.int .i64 (learnP p u : Nat))).drew
      rw [mod_set _ _ _ _ hcl] at this
      show Blk _ _ _ (modCells (s.P.set c (learnP (s.P.getD c 0) u)) _)
      rw [PP.out]
      exact this
    · have := enc_far (S := (· = b)) h1 (((Only.refl _ wc).put (by rfl) c (.int .i64 (learnP p u : Nat))).drew) (fun e => hne e.symm) (fun k hk e => enc_blk_ne h1 hb (by decide) _ hk e.symm)
      show EncAt _ _ _ (s.e.narrow (s.e.r / 2048 * s.P.getD c 0) u)
      rw [PP.out]
      exact this
    · exact ((h2.mono (fun _ _ h => .inr h)).put (.inl rfl) c _).drew
    · exact h3
end Go.Proofs.YtkkgpdejmcpcpaaDoor

/- The model's reader; new ones; End, Over, Chance. -/
namespace Go.Proofs.YtkkgpdejmcpcpaaDoor
open Go.RowKit

structure RdAt (w : World) (b db g cap : Nat) (s : Rd) : Prop where
  blk : Blk w b 90 (modCells s.P (.pointer (some ⟨db, 0, none⟩)))
  dec : DecAt w db g cap s.d
def Fr (b db : Nat) (k : Nat) : Prop := k = b ∨ k = db
theorem RdAt.ne {w : World} {b db g cap : Nat} {s : Rd} (h : RdAt w b db g cap s) : b ≠ db := h.blk.apart h.dec.blk (by decide)
theorem RdAt.neg {w : World} {b db g cap : Nat} {s : Rd} (h : RdAt w b db g cap s) : b ≠ g := by
  obtain ⟨cs, hb, _⟩ := h.dec.bys
  exact h.blk.apart hb (by decide)
theorem dec_far {w w' : World} {b g c : Nat} {d : Dec} {S : Nat → Prop} (h : DecAt w b g c d) (ho : Only S w w') (h1 : ¬ S b) (h2 : ¬ S g) : DecAt w' b g c d :=
  ⟨h.blk.keep ho h1, h.bys.only ho h2, h.len⟩
theorem dec_drew {w : World} {b g c : Nat} {d : Dec} (h : DecAt w b g c d) : DecAt w.drew b g c d := ⟨h.blk, h.bys, h.len⟩
structure Rd.Ok (s : Rd) (lim : Nat) : Prop where
  P : POk s.P
  d : s.d.Ok lim
def RdMoved (w : World) (b db g cap : Nat) (s : Rd) (w' : World) : Prop := RdAt w' b db g cap s ∧ Only (Fr b db) w w'

set_option maxRecDepth 100000 in
set_option maxHeartbeats 400000 in
theorem rd_flat (b db g cap : Nat) (u : Bool) (s : Rd) (w : World) (hs : RdAt w b db g cap s) (ho : s.Ok 1000000000) :
    Calls Tryd.prog 94 #[.pointer (some ⟨b, 0, none⟩), .bool u] w fun e w' => e = .returned (.bool (s.flat u).1) ∧ RdMoved w b db g cap (s.flat u).2 w' := by
  have h64 := hs.blk.cell 64
  rw [mod_last _ _ ho.P.len] at h64
  have S := hid (And.intro hs ho)
  clear hs ho
  go_enter Tryd.func94, Tryd.ntmps94
  go_wp2_with fail
  refine (dec_flat db g cap s.d _ S.out.1.dec S.out.2.d).mono ?_
  rintro y w' ⟨rfl, h1, h2⟩
  have P := hid (And.intro h1 h2)
  clear h1 h2
  go_wp2
  go_ret
  obtain ⟨h1, h2⟩ := P.out
  obtain ⟨hs, _⟩ := S.out
  exact ⟨rfl, ⟨hs.blk.keep h2 hs.ne, h1⟩, h2.mono (fun _ _ h => .inr h)⟩

set_option maxRecDepth 100000 in
set_option maxHeartbeats 400000 in
theorem rd_bit_out (b db g cap : Nat) (c : Int) (u : Bool) (s : Rd) (w : World) (hs : RdAt w b db g cap s) (ho : s.Ok 1000000000) (hc : c < 0 ∨ 64 ≤ c) :
    Calls Tryd.prog 93 #[.pointer (some ⟨b, 0, none⟩), .int .i64 c, .bool u] w fun e w' => e = .returned (.bool (s.flat u).1) ∧ RdMoved w b db g cap (s.flat u).2 w' := by
  have S := hid (And.intro hs ho)
  clear hs ho
  go_enter Tryd.func93, Tryd.ntmps93
  go_wp2_with
    (first
      | (go_at_call 96
         refine (context_no c _ hc).mono ?_
         rintro e w' ⟨rfl, rfl⟩)
      | (go_at_call 94
         refine (rd_flat b db g cap u s _ S.out.1 S.out.2).mono ?_
         rintro y w' ⟨rfl, hp⟩
         have P := hid hp
         clear hp))
  go_ret
  exact ⟨rfl, P.out⟩

set_option maxRecDepth 100000 in
set_option maxHeartbeats 400000 in
theorem rd_bit (b db g cap c : Nat) (u : Bool) (s : Rd) (w : World) (hs : RdAt w b db g cap s) (ho : s.Ok 1000000000) (hc : c < 64) :
    Calls Tryd.prog 93 #[.pointer (some ⟨b, 0, none⟩), .int .i64 c, .bool u] w fun e w' => e = .returned (.bool (s.bit c u).1) ∧ RdMoved w b db g cap (s.bit c u).2 w' := by
  have h64 := hs.blk.cell 64
  rw [mod_last _ _ ho.P.len] at h64
  have hcc := hs.blk.cell c
  have hcl : c < s.P.length := by rw [ho.P.len]; exact hc
  rw [mod_get _ _ _ hcl] at hcc
  have c0 : (0 : Int) ≤ (c : Int) := by omega
  have c1 : (c : Int) < 64 := by omega
  have hp1 := ho.P.lo c hc
  have hp2 := ho.P.hi c hc
  have S := hid (And.intro hs ho)
  clear hs ho
  generalize hpp : s.P.getD c 0 = p at *
  have PP := hid hpp
  clear hpp
  have hbit : (s.bit c u).1 = s.d.bit (s.d.r / 2048 * p) := by show s.d.bit (s.d.r / 2048 * s.P.getD c 0) = _; rw [PP.out]
  have HB := hid hbit
  clear hbit
  go_enter Tryd.func93, Tryd.ntmps93
  go_wp2_with (go_at_call 96; refine (context_yes c _ (by omega) (by omega)).mono ?_; rintro e w' ⟨rfl, rfl⟩)
  go_cut [2] (fun t2 W => t2 = .bool (s.d.bit (s.d.r / 2048 * p)) ∧ DecPart w db g cap (s.d.narrow (s.d.r / 2048 * p)) W)
  case first =>
    go_region_with (go_at_call 97; refine (dec_code db g cap p s.d _ (by exact dec_drew S.out.1.dec) S.out.2.d (by omega) (by omega)).mono ?_; rintro y w' ⟨rfl, hp⟩)
    all_goals
      go_wp2_with fail
      go_meet
      exact ⟨rfl, hp.1, (Only.refl _ w).drew.trans hp.2⟩
  case rest =>
    obtain ⟨rfl, h1, h2⟩ := hcut
    have hb := S.out.1.blk.keep h2 S.out.1.ne
    have hcc' := hb.cell c
    rw [mod_get _ _ _ hcl, PP.out] at hcc'
    have fcc' := hb.frozen c
    have X := hid (And.intro h1 (And.intro h2 hb))
    clear h1 h2 hb hcc h64
    generalize hq : s.d.bit (s.d.r / 2048 * p) = q at *
    have QQ := hid hq
    clear hq
    go_wp2_with (go_at_call 98; refine (learn_any b c p q _ hc (by assumption) (by assumption) (by omega)).mono ?_; rintro y w' ⟨rfl, rfl⟩)
    go_ret
    obtain ⟨h1, h2, hb⟩ := X.out
    have hne : b ≠ db := S.out.1.ne
    rw [HB.out]
    refine ⟨rfl, ⟨?_, ?_⟩, ?_⟩
    · have := (hb.put c (.int .i64 (learnP p q : Nat))).drew
      rw [mod_set _ _ _ _ hcl] at this
      show Blk _ _ _ (modCells (s.P.set c (learnP (s.P.getD c 0) (s.d.bit (s.d.r / 2048 * s.P.getD c 0)))) _)
      rw [PP.out, QQ.out]
      exact this
    · have := dec_far (S := (· = b)) h1 (((Only.refl _ wc).put (by rfl) c (.int .i64 (learnP p q : Nat))).drew) (fun e => hne e.symm) (fun e => S.out.1.neg e.symm)
      show DecAt _ _ _ _ (s.d.narrow (s.d.r / 2048 * s.P.getD c 0))
      rw [PP.out]
      exact this
    · exact ((h2.mono (fun _ _ h => .inr h)).put (.inl rfl) c _).drew

end Go.Proofs.YtkkgpdejmcpcpaaDoor

