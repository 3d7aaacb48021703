/- The model's reader; new ones; End, Over, Chance. -/
import Derived.Test.YtnlfnknkiggejaaDoorModWr
namespace Go.Proofs.YtnlfnknkiggejaaDoor
open Go.RowKit

structure RdAt (w : World) (b db g cap : Nat) (s : Rd) : Prop where
  blk : Blk w b 129 (modCells s.P (.pointer (some ⟨db, 0, none⟩)))
  dec : DecAt w db g cap s.d
def Fr (b db : Nat) (k : Nat) : Prop := k = b ∨ k = db
theorem RdAt.ne {w : World} {b db g cap : Nat} {s : Rd} (h : RdAt w b db g cap s) : b ≠ db := h.blk.apart h.dec.blk (by decide)
theorem RdAt.neg {w : World} {b db g cap : Nat} {s : Rd} (h : RdAt w b db g cap s) : b ≠ g := by
  obtain ⟨cs, hb, _⟩ := h.dec.bys
  exact h.blk.apart hb (by decide)
theorem dec_far {w w' : World} {b g c : Nat} {d : Dec} {S : Nat → Prop} (h : DecAt w b g c d) (ho : Only S w w') (h1 : ¬ S b) (h2 : ¬ S g) : DecAt w' b g c d :=
  ⟨h.blk.keep ho h1, h.bys.only ho h2, h.len⟩
theorem dec_drew {w : World} {b g c : Nat} {d : Dec} (h : DecAt w b g c d) : DecAt w.drew b g c d := ⟨h.blk, h.bys, h.len⟩
structure Rd.Ok (s : Rd) (lim : Nat) : Prop where
  P : POk s.P
  d : s.d.Ok lim
def RdMoved (w : World) (b db g cap : Nat) (s : Rd) (w' : World) : Prop := RdAt w' b db g cap s ∧ Only (Fr b db) w w'

set_option maxRecDepth 100000 in
set_option maxHeartbeats 400000 in
theorem rd_flat (b db g cap : Nat) (u : Bool) (s : Rd) (w : World) (hs : RdAt w b db g cap s) (ho : s.Ok 1000000000) :
    Calls Tryd.prog 141 #[.pointer (some ⟨b, 0, none⟩), .bool u] w fun e w' => e = .returned (.bool (s.flat u).1) ∧ RdMoved w b db g cap (s.flat u).2 w' := by
  have h64 := hs.blk.cell 64
  rw [mod_last _ _ ho.P.len] at h64
  have S := hid (And.intro hs ho)
  clear hs ho
  go_enter Tryd.func141, Tryd.ntmps141
  go_wp2_with fail
  refine (dec_flat db g cap s.d _ S.out.1.dec S.out.2.d).mono ?_
  rintro y w' ⟨rfl, h1, h2⟩
  have P := hid (And.intro h1 h2)
  clear h1 h2
  go_wp2
  go_ret
  obtain ⟨h1, h2⟩ := P.out
  obtain ⟨hs, _⟩ := S.out
  exact ⟨rfl, ⟨hs.blk.keep h2 hs.ne, h1⟩, h2.mono (fun _ _ h => .inr h)⟩

set_option maxRecDepth 100000 in
set_option maxHeartbeats 400000 in
theorem rd_bit_out (b db g cap : Nat) (c : Int) (u : Bool) (s : Rd) (w : World) (hs : RdAt w b db g cap s) (ho : s.Ok 1000000000) (hc : c < 0 ∨ 64 ≤ c) :
    Calls Tryd.prog 140 #[.pointer (some ⟨b, 0, none⟩), .int .i64 c, .bool u] w fun e w' => e = .returned (.bool (s.flat u).1) ∧ RdMoved w b db g cap (s.flat u).2 w' := by
  have S := hid (And.intro hs ho)
  clear hs ho
  go_enter Tryd.func140, Tryd.ntmps140
  go_wp2_with
    (first
      | (go_at_call 74
         refine (context_no c _ hc).mono ?_
         rintro e w' ⟨rfl, rfl⟩)
      | (go_at_call 141
         refine (rd_flat b db g cap u s _ S.out.1 S.out.2).mono ?_
         rintro y w' ⟨rfl, hp⟩
         have P := hid hp
         clear hp))
  go_ret
  exact ⟨rfl, P.out⟩

set_option maxRecDepth 100000 in
set_option maxHeartbeats 400000 in
theorem rd_bit (b db g cap c : Nat) (u : Bool) (s : Rd) (w : World) (hs : RdAt w b db g cap s) (ho : s.Ok 1000000000) (hc : c < 64) :
    Calls Tryd.prog 140 #[.pointer (some ⟨b, 0, none⟩), .int .i64 c, .bool u] w fun e w' => e = .returned (.bool (s.bit c u).1) ∧ RdMoved w b db g cap (s.bit c u).2 w' := by
  have h64 := hs.blk.cell 64
  rw [mod_last _ _ ho.P.len] at h64
  have hcc := hs.blk.cell c
  have hcl : c < s.P.length := by rw [ho.P.len]; exact hc
  rw [mod_get _ _ _ hcl] at hcc
  have c0 : (0 : Int) ≤ (c : Int) := by omega
  have c1 : (c : Int) < 64 := by omega
  have hp1 := ho.P.lo c hc
  have hp2 := ho.P.hi c hc
  have S := hid (And.intro hs ho)
  clear hs ho
  generalize hpp : s.P.getD c 0 = p at *
  have PP := hid hpp
  clear hpp
  have hbit : (s.bit c u).1 = s.d.bit (s.d.r / 2048 * p) := by show s.d.bit (s.d.r / 2048 * s.P.getD c 0) = _; rw [PP.out]
  have HB := hid hbit
  clear hbit
  go_enter Tryd.func140, Tryd.ntmps140
  go_wp2_with (go_at_call 74; refine (context_yes c _ (by omega) (by omega)).mono ?_; rintro e w' ⟨rfl, rfl⟩)
  go_cut [2] (fun t2 W => t2 = .bool (s.d.bit (s.d.r / 2048 * p)) ∧ DecPart w db g cap (s.d.narrow (s.d.r / 2048 * p)) W)
  case first =>
    go_region_with (go_at_call 142; refine (dec_code db g cap p s.d _ (by exact dec_drew S.out.1.dec) S.out.2.d (by omega) (by omega)).mono ?_; rintro y w' ⟨rfl, hp⟩)
    all_goals
      go_wp2_with fail
      go_meet
      exact ⟨rfl, hp.1, (Only.refl _ w).drew.trans hp.2⟩
  case rest =>
    obtain ⟨rfl, h1, h2⟩ := hcut
    have hb := S.out.1.blk.keep h2 S.out.1.ne
    have hcc' := hb.cell c
    rw [mod_get _ _ _ hcl, PP.out] at hcc'
    have fcc' := hb.frozen c
    have X := hid (And.intro h1 (And.intro h2 hb))
    clear h1 h2 hb hcc h64
    generalize hq : s.d.bit (s.d.r / 2048 * p) = q at *
    have QQ := hid hq
    clear hq
    go_wp2_with (go_at_call 133; refine (learn_any b c p q _ hc (by assumption) (by assumption) (by omega)).mono ?_; rintro y w' ⟨rfl, rfl⟩)
    go_ret
    obtain ⟨h1, h2, hb⟩ := X.out
    have hne : b ≠ db := S.out.1.ne
    rw [HB.out]
    refine ⟨rfl, ⟨?_, ?_⟩, ?_⟩
    · have := (hb.put c (.int .i64 (learnP p q : Nat))).drew
      rw [mod_set _ _ _ _ hcl] at this
      show Blk _ _ _ (modCells (s.P.set c (learnP (s.P.getD c 0) (s.d.bit (s.d.r / 2048 * s.P.getD c 0)))) _)
      rw [PP.out, QQ.out]
      exact this
    · have := dec_far (S := (· = b)) h1 (((Only.refl _ wc).put (by rfl) c (.int .i64 (learnP p q : Nat))).drew) (fun e => hne e.symm) (fun e => S.out.1.neg e.symm)
      show DecAt _ _ _ _ (s.d.narrow (s.d.r / 2048 * s.P.getD c 0))
      rw [PP.out]
      exact this
    · exact ((h2.mono (fun _ _ h => .inr h)).put (.inl rfl) c _).drew

end Go.Proofs.YtnlfnknkiggejaaDoor
