/- Parts: XModRd, XModNew. -/
import Derived.Test.YtkkgpdejmcpcpaaGreatDoorM12
/- The model's reader; new ones; End, Over, Chance. -/
namespace Go.Proofs.YtkkgpdejmcpcpaaGreatDoor
open Go.RowKit

structure RdAt (w : World) (b db g cap : Nat) (s : Rd) : Prop where
  blk : Blk w b 114 (modCells s.P (.pointer (some ⟨db, 0, none⟩)))
  dec : DecAt w db g cap s.d
def Fr (b db : Nat) (k : Nat) : Prop := k = b ∨ k = db
theorem RdAt.ne {w : World} {b db g cap : Nat} {s : Rd} (h : RdAt w b db g cap s) : b ≠ db := h.blk.apart h.dec.blk (by decide)
theorem RdAt.neg {w : World} {b db g cap : Nat} {s : Rd} (h : RdAt w b db g cap s) : b ≠ g := by
  obtain ⟨cs, hb, _⟩ := h.dec.bys
  exact h.blk.apart hb (by decide)
theorem dec_far {w w' : World} {b g c : Nat} {d : Dec} {S : Nat → Prop} (h : DecAt w b g c d) (ho : Only S w w') (h1 : ¬ S b) (h2 : ¬ S g) : DecAt w' b g c d :=
  ⟨h.blk.keep ho h1, h.bys.only ho h2, h.len⟩
theorem dec_drew {w : World} {b g c : Nat} {d : Dec} (h : DecAt w b g c d) : DecAt w.drew b g c d := ⟨h.blk, h.bys, h.len⟩
structure Rd.Ok (s : Rd) (lim : Nat) : Prop where
  P : POk s.P
  d : s.d.Ok lim
def RdMoved (w : World) (b db g cap : Nat) (s : Rd) (w' : World) : Prop := RdAt w' b db g cap s ∧ Only (Fr b db) w w'

set_option maxRecDepth 100000 in
set_option maxHeartbeats 400000 in
theorem rd_flat (b db g cap : Nat) (u : Bool) (s : Rd) (w : World) (hs : RdAt w b db g cap s) (ho : s.Ok 1000000000) :
    Calls Tryz.prog 133 #[.pointer (some ⟨b, 0, none⟩), .bool u] w fun e w' => e = .returned (.bool (s.flat u).1) ∧ RdMoved w b db g cap (s.flat u).2 w' := by
  have h64 := hs.blk.cell 64
  rw [mod_last _ _ ho.P.len] at h64
  have S := hid (And.intro hs ho)
  clear hs ho
  go_enter Tryz.func133, Tryz.ntmps133
  go_wp2_with fail
  refine (dec_flat db g cap s.d _ S.out.1.dec S.out.2.d).mono ?_
  rintro y w' ⟨rfl, h1, h2⟩
  have P := hid (And.intro h1 h2)
  clear h1 h2
  go_wp2
  go_ret
  obtain ⟨h1, h2⟩ := P.out
  obtain ⟨hs, _⟩ := S.out
  exact ⟨rfl, ⟨hs.blk.keep h2 hs.ne, h1⟩, h2.mono (fun _ _ h => .inr h)⟩

set_option maxRecDepth 100000 in
set_option maxHeartbeats 400000 in
theorem rd_bit_out (b db g cap : Nat) (c : Int) (u : Bool) (s : Rd) (w : World) (hs : RdAt w b db g cap s) (ho : s.Ok 1000000000) (hc : c < 0 ∨ 64 ≤ c) :
    Calls Tryz.prog 132 #[.pointer (some ⟨b, 0, none⟩), .int .i64 c, .bool u] w fun e w' => e = .returned (.bool (s.flat u).1) ∧ RdMoved w b db g cap (s.flat u).2 w' := by
  have S := hid (And.intro hs ho)
  clear hs ho
  go_enter Tryz.func132, Tryz.ntmps132
  go_wp2_with
    (first
      | (go_at_call 123
         refine (context_no c _ hc).mono ?_
         rintro e w' ⟨rfl, rfl⟩)
      | (go_at_call 133
         refine (rd_flat b db g cap u s _ S.out.1 S.out.2).mono ?_
         rintro y w' ⟨rfl, hp⟩
         have P := hid hp
         clear hp))
  go_ret
  exact ⟨rfl, P.out⟩

set_option maxRecDepth 100000 in
set_option maxHeartbeats 400000 in
theorem rd_bit (b db g cap c : Nat) (u : Bool) (s : Rd) (w : World) (hs : RdAt w b db g cap s) (ho : s.Ok 1000000000) (hc : c < 64) :
    Calls Tryz.prog 132 #[.pointer (some ⟨b, 0, none⟩), .int .i64 c, .bool u] w fun e w' => e = .returned (.bool (s.bit c u).1) ∧ RdMoved w b db g cap (s.bit c u).2 w' := by
  have h64 := hs.blk.cell 64
  rw [mod_last _ _ ho.P.len] at h64
  have hcc := hs.blk.cell c
  have hcl : c < s.P.length := by rw [ho.P.len]; exact hc
  rw [mod_get _ _ _ hcl] at hcc
  have c0 : (0 : Int) ≤ (c : Int) := by omega
  have c1 : (c : Int) < 64 := by omega
  have hp1 := ho.P.lo c hc
  have hp2 := ho.P.hi c hc
  have S := hid (And.intro hs ho)
  clear hs ho
  generalize hpp : s.P.getD c 0 = p at *
  have PP := hid hpp
  clear hpp
  have hbit : (s.bit c u).1 = s.d.bit (s.d.r / 2048 * p) := by show s.d.bit (s.d.r / 2048 * s.P.getD c 0) = _; rw [PP.out]
  have HB := hid hbit
  clear hbit
  go_enter Tryz.func132, Tryz.ntmps132
  go_wp2_with (go_at_call 123; refine (context_yes c _ (by omega) (by omega)).mono ?_; rintro e w' ⟨rfl, rfl⟩)
  go_cut [2] (fun t2 W => t2 = .bool (s.d.bit (s.d.r / 2048 * p)) ∧ DecPart w db g cap (s.d.narrow (s.d.r / 2048 * p)) W)
  case first =>
    go_region_with (go_at_call 134; refine (dec_code db g cap p s.d _ (by exact dec_drew S.out.1.dec) S.out.2.d (by omega) (by omega)).mono ?_; rintro y w' ⟨rfl, hp⟩)
    all_goals
      go_wp2_with fail
      go_meet
      exact ⟨rfl, hp.1, (Only.refl _ w).drew.trans hp.2⟩
  case rest =>
    obtain ⟨rfl, h1, h2⟩ := hcut
    have hb := S.out.1.blk.keep h2 S.out.1.ne
    have hcc' := hb.cell c
    rw [mod_get _ _ _ hcl, PP.out] at hcc'
    have fcc' := hb.frozen c
    have X := hid (And.intro h1 (And.intro h2 hb))
    clear h1 h2 hb hcc h64
    generalize hq : s.d.bit (s.d.r / 2048 * p) = q at *
    have QQ := hid hq
    clear hq
    go_wp2_with (go_at_call 125; refine (learn_any b c p q _ hc (by assumption) (by assumption) (by omega)).mono ?_; rintro y w' ⟨rfl, rfl⟩)
    go_ret
    obtain ⟨h1, h2, hb⟩ := X.out
    have hne : b ≠ db := S.out.1.ne
    rw [HB.out]
    refine ⟨rfl, ⟨?_, ?_⟩, ?_⟩
    · have := (hb.put c (.int .i64 (learnP p q : Nat))).drew
      rw [mod_set _ _ _ _ hcl] at this
      show Blk _ _ _ (modCells (s.P.set c (learnP (s.P.getD c 0) (s.d.bit (s.d.r / 2048 * s.P.getD c 0)))) _)
      rw [PP.out, QQ.out]
      exact this
    · have := dec_far (S := (· = b)) h1 (((Only.refl _ wc).put (by rfl) c (.int .i64 (learnP p q : Nat))).drew) (fun e => hne e.symm) (fun e => S.out.1.neg e.symm)
      show DecAt _ _ _ _ (s.d.narrow (s.d.r / 2048 * s.P.getD c 0))
      rw [PP.out]
      exact this
    · exact ((h2.mono (fun _ _ h => .inr h)).put (.inl rfl) c _).drew

end Go.Proofs.YtkkgpdejmcpcpaaGreatDoor

/- New writers and readers; End, Over, Chance. -/
namespace Go.Proofs.YtkkgpdejmcpcpaaGreatDoor
open Go.RowKit

theorem fold_wr (q : Value) : ((Array.foldl (fun (cs : Array Value) (x : Value × Nat) => cs.setIfInBounds x.snd x.fst) Tryz.zeroCells81 (chV first64).zipIdx 0 (chV first64).size).setIfInBounds 64 q) = modCells first64 q := by kernel_rfl
theorem fold_rd (q : Value) : ((Array.foldl (fun (cs : Array Value) (x : Value × Nat) => cs.setIfInBounds x.snd x.fst) Tryz.zeroCells114 (chV first64).zipIdx 0 (chV first64).size).setIfInBounds 64 q) = modCells first64 q := by kernel_rfl

def Wr.new : Wr := ⟨first64, Enc.new⟩
def WrNew (w : World) (e : Ending) (w' : World) : Prop :=
  ∃ b eb v, e = .returned (.pointer (some ⟨b, 0, none⟩)) ∧ WrAt w' b eb v Wr.new ∧ (∀ k, Fw b eb v k → w.heap.size ≤ k) ∧ Below w.heap.size w w'
set_option maxRecDepth 100000 in
set_option maxHeartbeats 400000 in
theorem new_writer (w : World) : Calls Tryz.prog 6 #[] w (WrNew w) := by
  have bld := fold_wr
  go_enter Tryz.func6, Tryz.ntmps6
  go_wp2_with fail
  refine (begin_any _).mono ?_
  rintro e w1 ⟨rfl, h1⟩
  have H1 := hid h1
  clear h1
  go_wp2_with fail
  refine (new_encoder _).mono ?_
  rintro e w2 ⟨rfl, h2, h3⟩
  have H2 := hid (And.intro h2 h3)
  clear h2 h3
  go_wp2_with fail
  go_ret
  have hs1 := H1.out.size
  have hs2 := H2.out.2.size
  have hlt := H2.out.1.blk.lt
  refine ⟨w2.heap.size, w1.heap.size, .slice none 0 0, rfl, ⟨Blk.new w2 _ _, ?_⟩, ?_, ?_⟩
  · exact enc_far (S := fun _ => False) H2.out.1 ((Only.refl _ w2).alloc _) (fun h => h) (fun _ _ h => h)
  · rintro k (rfl | rfl | h)
    · omega
    · omega
    · cases h
  · exact (H1.out.trans (H2.out.2.mono hs1)).alloc (by omega) _

def Rd.new (bs : List UInt8) : Rd := ⟨first64, Dec.new bs⟩
def RdNew (w : World) (bs : List UInt8) (e : Ending) (w' : World) : Prop :=
  ∃ b db g cap, e = .returned (.pointer (some ⟨b, 0, none⟩)) ∧ RdAt w' b db g cap (Rd.new bs) ∧ w.heap.size ≤ b ∧ w.heap.size ≤ db ∧ w.heap.size ≤ g ∧ Below w.heap.size w w'
set_option maxRecDepth 100000 in
set_option maxHeartbeats 400000 in
theorem new_reader (x : Value) (bs : List UInt8) (w : World) (hx : From w 1 x bs.length (bs.map byteV)) (hl : bs.length ≤ 140737488355328) :
    Calls Tryz.prog 18 #[x] w (RdNew w bs) := by
  have bld := fold_rd
  have X := hid hx
  clear hx
  go_enter Tryz.func18, Tryz.ntmps18
  go_wp2_with fail
  refine (begin_any _).mono ?_
  rintro e w1 ⟨rfl, h1⟩
  have hf : From w1 1 x bs.length (bs.map byteV) := by
    obtain ⟨A, c, h2, h3, h4⟩ := X.out
    refine ⟨A, c, h2, h3, fun h0 => ?_⟩
    obtain ⟨ad, h5, h6⟩ := h4 h0
    refine ⟨ad, h5, fun j u hu => ?_⟩
    have := h6 j u hu
    rw [h1.cell (World.block_lt_of_cell? _ _ this)]
    exact this
  have H1 := hid (And.intro h1 hf)
  clear h1 hf
  go_wp2_with fail
  refine (new_decoder x bs _ H1.out.2 hl).mono ?_
  rintro e w2 ⟨db, g, cap, rfl, h2, h3, h4, h5⟩
  have H2 := hid (And.intro h2 (And.intro h3 (And.intro h4 h5)))
  clear h2 h3 h4 h5
  go_wp2_with fail
  go_ret
  have hs1 := H1.out.1.size
  obtain ⟨h2, h3, h4, h5⟩ := H2.out
  have hs2 := h5.size
  refine ⟨w2.heap.size, db, g, cap, rfl, ⟨Blk.new w2 _ _, ?_⟩, by omega, by omega, by omega, ?_⟩
  · exact dec_far (S := fun _ => False) h2 ((Only.refl _ w2).alloc _) (fun h => h) (fun h => h)
  · exact (H1.out.1.trans (h5.mono hs1)).alloc (by omega) _

set_option maxHeartbeats 400000 in
theorem wr_end (b eb : Nat) (v : Value) (s : Wr) (w : World) (hs : WrAt w b eb v s) (hp : s.P.length = 64) (hl : s.e.out.length ≤ 1000000010) (hlow : s.e.low ≤ 4294967295) :
    Calls Tryz.prog 16 #[.pointer (some ⟨b, 0, none⟩)] w fun y w' => ∃ g cap, y = .returned (.slice (some ⟨g, 0, none⟩) s.e.bytes.length cap) ∧ w'.ownsRow w.heap.size 5 1 (.slice (some ⟨g, 0, none⟩) s.e.bytes.length cap) s.e.bytes.length (s.e.bytes.map byteV) ∧ Below w.heap.size w w' := by
  have h64 := hs.blk.cell 64
  rw [mod_last _ _ hp] at h64
  have S := hid hs.enc
  clear hs
  go_enter Tryz.func16, Tryz.ntmps16
  go_wp2_with fail
  refine (enc_end eb v s.e _ S.out hl hlow).mono ?_
  rintro y w' ⟨g, cap, rfl, h1, h2⟩
  have P := hid (And.intro h1 h2)
  clear h1 h2
  go_wp2
  go_ret
  exact ⟨g, cap, rfl, P.out.1, P.out.2⟩

set_option maxHeartbeats 400000 in
theorem rd_over (b db g cap : Nat) (s : Rd) (w : World) (hs : RdAt w b db g cap s) (hp : s.P.length = 64) (hat : s.d.at_ ≤ 1000000000) :
    Calls Tryz.prog 20 #[.pointer (some ⟨b, 0, none⟩)] w fun e w' => e = .returned (.int .i64 (s.d.at_ - s.d.bs.length : Nat)) ∧ ∃ m, w' = w.drewN m := by
  have h64 := hs.blk.cell 64
  rw [mod_last _ _ hp] at h64
  have S := hid hs.dec
  clear hs
  go_enter Tryz.func20, Tryz.ntmps20
  go_wp2_with fail
  refine (dec_over db g cap s.d _ S.out hat).mono ?_
  rintro y w' ⟨rfl, m, rfl⟩
  go_wp2
  go_ret
  exact ⟨rfl, _, rfl⟩

def chanceOf (P : List Nat) (c : Int) : Int := if 0 ≤ c ∧ c < 64 then (P.getD c.toNat 0 : Nat) else 0
end Go.Proofs.YtkkgpdejmcpcpaaGreatDoor

