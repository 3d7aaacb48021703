/- New writers and readers; End, Over, Chance. -/
import Derived.Test.YtnlfnknkiggejaaDoorModRd
namespace Go.Proofs.YtnlfnknkiggejaaDoor
open Go.RowKit

theorem fold_wr (q : Value) : ((Array.foldl (fun (cs : Array Value) (x : Value × Nat) => cs.setIfInBounds x.snd x.fst) Tryd.zeroCells65 (chV first64).zipIdx 0 (chV first64).size).setIfInBounds 64 q) = modCells first64 q := by kernel_rfl
theorem fold_rd (q : Value) : ((Array.foldl (fun (cs : Array Value) (x : Value × Nat) => cs.setIfInBounds x.snd x.fst) Tryd.zeroCells129 (chV first64).zipIdx 0 (chV first64).size).setIfInBounds 64 q) = modCells first64 q := by kernel_rfl

def Wr.new : Wr := ⟨first64, Enc.new⟩
def WrNew (w : World) (e : Ending) (w' : World) : Prop :=
  ∃ b eb v, e = .returned (.pointer (some ⟨b, 0, none⟩)) ∧ WrAt w' b eb v Wr.new ∧ (∀ k, Fw b eb v k → w.heap.size ≤ k) ∧ Below w.heap.size w w'
set_option maxRecDepth 100000 in
set_option maxHeartbeats 400000 in
theorem new_writer (w : World) : Calls Tryd.prog 14 #[] w (WrNew w) := by
  have bld := fold_wr
  go_enter Tryd.func14, Tryd.ntmps14
  go_wp2_with fail
  refine (begin_any _).mono ?_
  rintro e w1 ⟨rfl, h1⟩
  have H1 := hid h1
  clear h1
  go_wp2_with fail
  refine (new_encoder _).mono ?_
  rintro e w2 ⟨rfl, h2, h3⟩
  have H2 := hid (And.intro h2 h3)
  clear h2 h3
  go_wp2_with fail
  go_ret
  have hs1 := H1.out.size
  have hs2 := H2.out.2.size
  have hlt := H2.out.1.blk.lt
  refine ⟨w2.heap.size, w1.heap.size, .slice none 0 0, rfl, ⟨Blk.new w2 _ _, ?_⟩, ?_, ?_⟩
  · exact enc_far (S := fun _ => False) H2.out.1 ((Only.refl _ w2).alloc _) (fun h => h) (fun _ _ h => h)
  · rintro k (rfl | rfl | h)
    · omega
    · omega
    · cases h
  · exact (H1.out.trans (H2.out.2.mono hs1)).alloc (by omega) _

def Rd.new (bs : List UInt8) : Rd := ⟨first64, Dec.new bs⟩
def RdNew (w : World) (bs : List UInt8) (e : Ending) (w' : World) : Prop :=
  ∃ b db g cap, e = .returned (.pointer (some ⟨b, 0, none⟩)) ∧ RdAt w' b db g cap (Rd.new bs) ∧ w.heap.size ≤ b ∧ w.heap.size ≤ db ∧ w.heap.size ≤ g ∧ Below w.heap.size w w'
set_option maxRecDepth 100000 in
set_option maxHeartbeats 400000 in
theorem new_reader (x : Value) (bs : List UInt8) (w : World) (hx : From w 1 x bs.length (bs.map byteV)) (hl : bs.length ≤ 140737488355328) :
    Calls Tryd.prog 25 #[x] w (RdNew w bs) := by
  have bld := fold_rd
  have X := hid hx
  clear hx
  go_enter Tryd.func25, Tryd.ntmps25
  go_wp2_with fail
  refine (begin_any _).mono ?_
  rintro e w1 ⟨rfl, h1⟩
  have hf : From w1 1 x bs.length (bs.map byteV) := by
    obtain ⟨A, c, h2, h3, h4⟩ := X.out
    refine ⟨A, c, h2, h3, fun h0 => ?_⟩
    obtain ⟨ad, h5, h6⟩ := h4 h0
    refine ⟨ad, h5, fun j u hu => ?_⟩
    have := h6 j u hu
    rw [h1.cell (World.block_lt_of_cell? _ _ this)]
    exact this
  have H1 := hid (And.intro h1 hf)
  clear h1 hf
  go_wp2_with fail
  refine (new_decoder x bs _ H1.out.2 hl).mono ?_
  rintro e w2 ⟨db, g, cap, rfl, h2, h3, h4, h5⟩
  have H2 := hid (And.intro h2 (And.intro h3 (And.intro h4 h5)))
  clear h2 h3 h4 h5
  go_wp2_with fail
  go_ret
  have hs1 := H1.out.1.size
  obtain ⟨h2, h3, h4, h5⟩ := H2.out
  have hs2 := h5.size
  refine ⟨w2.heap.size, db, g, cap, rfl, ⟨Blk.new w2 _ _, ?_⟩, by omega, by omega, by omega, ?_⟩
  · exact dec_far (S := fun _ => False) h2 ((Only.refl _ w2).alloc _) (fun h => h) (fun h => h)
  · exact (H1.out.1.trans (h5.mono hs1)).alloc (by omega) _

set_option maxHeartbeats 400000 in
theorem wr_end (b eb : Nat) (v : Value) (s : Wr) (w : World) (hs : WrAt w b eb v s) (hp : s.P.length = 64) (hl : s.e.out.length ≤ 1000000010) (hlow : s.e.low ≤ 4294967295) :
    Calls Tryd.prog 23 #[.pointer (some ⟨b, 0, none⟩)] w fun y w' => ∃ g cap, y = .returned (.slice (some ⟨g, 0, none⟩) s.e.bytes.length cap) ∧ w'.ownsRow w.heap.size 5 1 (.slice (some ⟨g, 0, none⟩) s.e.bytes.length cap) s.e.bytes.length (s.e.bytes.map byteV) ∧ Below w.heap.size w w' := by
  have h64 := hs.blk.cell 64
  rw [mod_last _ _ hp] at h64
  have S := hid hs.enc
  clear hs
  go_enter Tryd.func23, Tryd.ntmps23
  go_wp2_with fail
  refine (enc_end eb v s.e _ S.out hl hlow).mono ?_
  rintro y w' ⟨g, cap, rfl, h1, h2⟩
  have P := hid (And.intro h1 h2)
  clear h1 h2
  go_wp2
  go_ret
  exact ⟨g, cap, rfl, P.out.1, P.out.2⟩

set_option maxHeartbeats 400000 in
theorem rd_over (b db g cap : Nat) (s : Rd) (w : World) (hs : RdAt w b db g cap s) (hp : s.P.length = 64) (hat : s.d.at_ ≤ 1000000000) :
    Calls Tryd.prog 29 #[.pointer (some ⟨b, 0, none⟩)] w fun e w' => e = .returned (.int .i64 (s.d.at_ - s.d.bs.length : Nat)) ∧ ∃ m, w' = w.drewN m := by
  have h64 := hs.blk.cell 64
  rw [mod_last _ _ hp] at h64
  have S := hid hs.dec
  clear hs
  go_enter Tryd.func29, Tryd.ntmps29
  go_wp2_with fail
  refine (dec_over db g cap s.d _ S.out hat).mono ?_
  rintro y w' ⟨rfl, m, rfl⟩
  go_wp2
  go_ret
  exact ⟨rfl, _, rfl⟩

def chanceOf (P : List Nat) (c : Int) : Int := if 0 ≤ c ∧ c < 64 then (P.getD c.toNat 0 : Nat) else 0
theorem mod_chance (b : Nat) (t : TypeId) (P : List Nat) (q : Value) (c : Int) (w : World) (hb : Blk w b t (modCells P q)) (hp : P.length = 64) :
    Calls Tryd.prog 31 #[.pointer (some ⟨b, 0, none⟩), .int .i64 c] w fun e w' => e = .returned (.int .i64 (chanceOf P c)) ∧ w = w' := by
  unfold chanceOf
  by_cases h : 0 ≤ c ∧ c < 64
  · rw [if_pos h]
    obtain ⟨n, rfl⟩ := Int.eq_ofNat_of_zero_le h.1
    have hc := hb.cell n
    rw [mod_get _ _ _ (by omega)] at hc
    exact chance_at b n _ w (by omega) hc
  · rw [if_neg h]
    exact chance_out b c w (by omega)
end Go.Proofs.YtnlfnknkiggejaaDoor
