/- The model's writer. -/
import Derived.Test.YtnlfnknkiggejaaDoorModBase
namespace Go.Proofs.YtnlfnknkiggejaaDoor
open Go.RowKit

def modCells (P : List Nat) (q : Value) : Array Value := (P.map (fun p => Value.int .i64 (p : Nat)) ++ [q]).toArray
theorem mod_get (P : List Nat) (q : Value) (i : Nat) (h : i < P.length) : (modCells P q)[i]? = some (.int .i64 (P.getD i 0 : Nat)) := by
  simp [modCells, h, List.getElem?_append_left, List.getD]
theorem mod_last (P : List Nat) (q : Value) (h : P.length = 64) : (modCells P q)[64]? = some q := by
  simp [modCells, h]
theorem mod_set (P : List Nat) (q : Value) (i v : Nat) (h : i < P.length) : (modCells P q).setIfInBounds i (.int .i64 (v : Nat)) = modCells (P.set i v) q := by
  simp [modCells, List.map_set, h]

structure WrAt (w : World) (b eb : Nat) (v : Value) (s : Wr) : Prop where
  blk : Blk w b 65 (modCells s.P (.pointer (some ⟨eb, 0, none⟩)))
  enc : EncAt w eb v s.e
def Fw (b eb : Nat) (v : Value) (k : Nat) : Prop := k = b ∨ Fp eb v k
theorem WrAt.ne {w : World} {b eb : Nat} {v : Value} {s : Wr} (h : WrAt w b eb v s) : b ≠ eb := h.blk.apart h.enc.blk (by decide)
theorem enc_far {w w' : World} {b : Nat} {v : Value} {e : Enc} {S : Nat → Prop} (h : EncAt w b v e) (ho : Only S w w') (h1 : ¬ S b) (h2 : ∀ k, v.ownBlock = some k → ¬ S k) : EncAt w' b v e := by
  refine ⟨h.blk.keep ho h1, ⟨h.own.1, ?_⟩, h.len⟩
  rcases h.own.2 with hn | ⟨g, cap, cur, hv, hb, hg, hr⟩
  · exact .inl hn
  · exact .inr ⟨g, cap, cur, hv, hb, Blk.keep hg ho (h2 g (by rw [hv]; rfl)), hr⟩
theorem enc_blk_ne {w : World} {b eb : Nat} {v : Value} {e : Enc} {t : TypeId} {cs : Array Value} (h : EncAt w eb v e) (hb : Blk w b t cs) (ht : 5 ≠ t) : ∀ k, v.ownBlock = some k → b ≠ k := by
  intro k hk
  rcases h.own.2 with ⟨rfl, _⟩ | ⟨g, cap, cur, rfl, _, hg, _⟩
  · simp [Value.ownBlock] at hk
  · simp [Value.ownBlock] at hk
    subst hk
    exact fun e => ht (by subst e; exact (Blk.uniq (t := 5) hg hb).1)
structure Wr.Ok (s : Wr) (lim : Nat) : Prop where
  P : POk s.P
  e : s.e.Ok lim
def WrMoved (w : World) (b eb : Nat) (v : Value) (s : Wr) (w' : World) : Prop := ∃ v', WrAt w' b eb v' s ∧ Only (Fw b eb v) w w' ∧ Fresh w v v'

set_option maxRecDepth 100000 in
set_option maxHeartbeats 400000 in
theorem wr_flat (b eb : Nat) (v : Value) (u : Bool) (s : Wr) (w : World) (hs : WrAt w b eb v s) (ho : s.Ok 1000000000) :
    Calls Tryd.prog 131 #[.pointer (some ⟨b, 0, none⟩), .bool u] w fun e w' => e = .returned (.bool u) ∧ WrMoved w b eb v (s.flat u).2 w' := by
  have h64 := hs.blk.cell 64
  rw [mod_last _ _ ho.P.len] at h64
  have S := hid (And.intro hs ho)
  clear hs ho
  go_enter Tryd.func131, Tryd.ntmps131
  go_wp2_with fail
  refine (enc_flat eb v u s.e _ S.out.1.enc S.out.2.e).mono ?_
  rintro y w' ⟨rfl, hp⟩
  have P := hid hp
  clear hp
  go_wp2
  go_ret
  obtain ⟨v', h1, h2, h3⟩ := P.out
  obtain ⟨hs, _⟩ := S.out
  refine ⟨rfl, v', ⟨?_, h1⟩, h2.mono (fun _ _ h => .inr h), h3⟩
  refine hs.blk.keep h2 ?_
  rintro (h | h)
  · exact hs.ne h
  · exact enc_blk_ne hs.enc hs.blk (by decide) _ h rfl

set_option maxRecDepth 100000 in
set_option maxHeartbeats 400000 in
theorem wr_bit_out (b eb : Nat) (v : Value) (c : Int) (u : Bool) (s : Wr) (w : World) (hs : WrAt w b eb v s) (ho : s.Ok 1000000000) (hc : c < 0 ∨ 64 ≤ c) :
    Calls Tryd.prog 130 #[.pointer (some ⟨b, 0, none⟩), .int .i64 c, .bool u] w fun e w' => e = .returned (.bool u) ∧ WrMoved w b eb v (s.flat u).2 w' := by
  have S := hid (And.intro hs ho)
  clear hs ho
  go_enter Tryd.func130, Tryd.ntmps130
  go_wp2_with
    (first
      | (go_at_call 74
         refine (context_no c _ hc).mono ?_
         rintro e w' ⟨rfl, rfl⟩)
      | (go_at_call 131
         refine (wr_flat b eb v u s _ S.out.1 S.out.2).mono ?_
         rintro y w' ⟨rfl, hp⟩
         have P := hid hp
         clear hp))
  go_ret
  exact ⟨rfl, P.out⟩

set_option maxRecDepth 100000 in
set_option maxHeartbeats 400000 in
theorem wr_bit (b eb c : Nat) (v : Value) (u : Bool) (s : Wr) (w : World) (hs : WrAt w b eb v s) (ho : s.Ok 1000000000) (hc : c < 64) :
    Calls Tryd.prog 130 #[.pointer (some ⟨b, 0, none⟩), .int .i64 c, .bool u] w fun e w' => e = .returned (.bool u) ∧ WrMoved w b eb v (s.bit c u).2 w' := by
  have h64 := hs.blk.cell 64
  rw [mod_last _ _ ho.P.len] at h64
  have hcc := hs.blk.cell c
  have hcl : c < s.P.length := by rw [ho.P.len]; exact hc
  rw [mod_get _ _ _ hcl] at hcc
  have c0 : (0 : Int) ≤ (c : Int) := by omega
  have c1 : (c : Int) < 64 := by omega
  have hp1 := ho.P.lo c hc
  have hp2 := ho.P.hi c hc
  have S := hid (And.intro hs ho)
  clear hs ho
  generalize hpp : s.P.getD c 0 = p at *
  have PP := hid hpp
  clear hpp
  go_enter Tryd.func130, Tryd.ntmps130
  go_wp2_with (go_at_call 74; refine (context_yes c _ (by omega) (by omega)).mono ?_; rintro e w' ⟨rfl, rfl⟩)
  go_cut [] (fun W => ∃ v', EncAt W eb v' (s.e.narrow (s.e.r / 2048 * p) u) ∧ Only (Fp eb v) w W ∧ Fresh w v v')
  case first =>
    go_region_with (go_at_call 132; refine (enc_code eb p v u s.e _ (by exact enc_drew S.out.1.enc) S.out.2.e (by omega) (by omega)).mono ?_; rintro y w' ⟨rfl, hp⟩)
    all_goals
      go_wp2_with fail
      go_meet
      obtain ⟨v', h1, h2, h3⟩ := hp
      exact ⟨v', h1, (Only.refl _ w).drew.trans h2, h3⟩
  case rest =>
    obtain ⟨v', h1, h2, h3⟩ := hcut
    have hnb : ¬ Fp eb v b := by
      rintro (h | h)
      · exact S.out.1.ne h
      · exact enc_blk_ne S.out.1.enc S.out.1.blk (by decide) _ h rfl
    have hb := S.out.1.blk.keep h2 hnb
    have hcc' := hb.cell c
    rw [mod_get _ _ _ hcl, PP.out] at hcc'
    have fcc' := hb.frozen c
    have X := hid (And.intro h1 (And.intro h2 (And.intro h3 hb)))
    clear h1 h2 h3 hb hnb hcc h64
    go_wp2_with (go_at_call 133; refine (learn_any b c p u _ hc (by assumption) (by assumption) (by omega)).mono ?_; rintro y w' ⟨rfl, rfl⟩)
    go_ret
    obtain ⟨h1, h2, h3, hb⟩ := X.out
    have hne : b ≠ eb := S.out.1.ne
    refine ⟨rfl, v', ⟨?_, ?_⟩, ?_, ?_⟩
    · have := (hb.put c (.int .i64 (learnP p u : Nat))).drew
      rw [mod_set _ _ _ _ hcl] at this
      show Blk _ _ _ (modCells (s.P.set c (learnP (s.P.getD c 0) u)) _)
      rw [PP.out]
      exact this
    · have := enc_far (S := (· = b)) h1 (((Only.refl _ wc).put (by rfl) c (.int .i64 (learnP p u : Nat))).drew) (fun e => hne e.symm) (fun k hk e => enc_blk_ne h1 hb (by decide) _ hk e.symm)
      show EncAt _ _ _ (s.e.narrow (s.e.r / 2048 * s.P.getD c 0) u)
      rw [PP.out]
      exact this
    · exact ((h2.mono (fun _ _ h => .inr h)).put (.inl rfl) c _).drew
    · exact h3
end Go.Proofs.YtnlfnknkiggejaaDoor
