/- What every seat shares: bytes as values; a copy of bytes; bytes held against one another; kinref.Fail. -/
import Derived.Test.YtnlfnknkiggejaaDoorProg
import Derived.Test.YtnlfnknkiggejaaDoorAppend
import Derived.Deep.LoopGhost
import Derived.Laws.IdiomStrings
import Derived.Laws.BytesArg
namespace Go.Proofs.YtnlfnknkiggejaaDoor
open Go.RowKit

def byteV (x : UInt8) : Value := .int .u8 (x.toNat : Nat)
theorem info_u8 : (Tryd.prog.info? 5).map (fun i => (i.zero, i.size, i.bytes)) = some (some (.int .u8 0), 1, 1) := by kernel_rfl
theorem from_block {W : World} {B : Nat} {cs : Array Value} {n : Nat} (h : Blk W B 5 cs) (hn : cs.size = n) : From W 1 (.slice (some ⟨B, 0, none⟩) n n) n cs.toList :=
  ⟨_, _, rfl, by simp [hn], fun _ => ⟨_, rfl, World.news_of_block h⟩⟩
theorem one_bytes (bs : List UInt8) : ∀ u ∈ bs.map byteV, u.oneCell' = true := by
  intro u hu
  obtain ⟨x, _, rfl⟩ := List.mem_map.1 hu
  rfl
set_option maxHeartbeats 400000 in
theorem copy_bytes (x : Value) (bs : List UInt8) (w : World) (hx : From w 1 x bs.length (bs.map byteV)) (hl : bs.length ≤ 1000000000000) :
    Calls Tryd.prog 34 #[x] w fun e w' => ∃ g cap, e = .returned (.slice (some ⟨g, 0, none⟩) bs.length cap) ∧ w'.ownsRow w.heap.size 5 1 (.slice (some ⟨g, 0, none⟩) bs.length cap) bs.length (bs.map byteV) ∧ Below w.heap.size w w' := by
  obtain ⟨i0, hi0, hz0, hz1, hz2⟩ := info_parts info_u8
  have X := hid hx
  clear hx
  have hfrom : From (w.alloc (.cells #[] 5)) 1 x bs.length (bs.map byteV) := by
    obtain ⟨A, c, h1, h2, h3⟩ := X.out
    refine ⟨A, c, h1, h2, fun h0 => ?_⟩
    obtain ⟨ad, h4, h5⟩ := h3 h0
    refine ⟨ad, h4, fun j u hu => ?_⟩
    have := h5 j u hu
    rw [World.cell?_alloc_lt _ _ _ (World.block_lt_of_cell? _ _ this)]
    exact this
  have F := hid hfrom
  clear hfrom
  go_enter Tryd.func34, Tryd.ntmps34
  go_wp2_with (at_builtin; refine wpList_append_form _ rfl _ _ _ rfl w.heap.size 5 i0 (.int .u8 0) 1 1 Tryd.underlying44 hi0 hz0 hz1 hz2 rfl (by omega) (.slice (some ⟨w.heap.size, 0, none⟩) 0 0) 0 [] rfl (World.ownsRow_lit w #[] 0 (Nat.le_refl _) (by unfold maxLen; omega) rfl) x bs.length (bs.map byteV) rfl F.out (one_bytes bs) (.inl (by simp [Value.ownBlock])) (by unfold maxLen; omega) (by omega) (by simp) bs.length (bs.map byteV) (by simp) (by simp) ?_; intro g cap w1 hown hgrow hat hlt)
  have hb : Below w.heap.size w w1 := ((Below.refl _ _).alloc (Nat.le_refl _) _).grown hgrow (by simp) (fun k hk => by simp [Value.ownBlock] at hk; omega)
  go_ret
  exact ⟨g, cap, rfl, hown, hb⟩
theorem conv_from {w : World} {x : Value} {bs : List UInt8} (h : From w 1 x bs.length (bs.map byteV)) : (convert 44 9 x).run Tryd.prog w = .ok (.string ⟨bs.toArray⟩) w := by
  obtain ⟨A, c, rfl, _, h2⟩ := h
  cases A with
  | none =>
    cases bs with
    | nil => exact run_convert_bytes_nil w _ _ Tryd.underlying44 Tryd.underlying5 _ _ _ Tryd.underlying9
    | cons a l =>
      obtain ⟨ad, h3, _⟩ := h2 (by simp)
      cases h3
  | some a =>
    refine run_convert_bytes_back w _ _ _ a c bs Tryd.underlying44 Tryd.underlying5 Tryd.underlying9 fun j hj => ?_
    obtain ⟨ad, h3, h4⟩ := h2 (by omega)
    injection h3 with h3
    subst h3
    exact h4 j _ (by simp [List.getElem?_eq_getElem hj, byteV])

theorem bytes_same {w : World} {x y : Value} {bs : List UInt8} (hx : From w 1 x bs.length (bs.map byteV)) (hy : From w 1 y bs.length (bs.map byteV)) :
    Calls Tryd.prog 22 #[x, y] w fun e w' => e = .returned (.bool true) ∧ w' = w := by
  have h1 := conv_from hx
  have h2 := conv_from hy
  obtain ⟨A, c, rfl, _⟩ := hx
  obtain ⟨A', c', rfl, _⟩ := hy
  go_enter Tryd.func22, Tryd.ntmps22
  go_wp2
  go_ret
  exact ⟨rfl, rfl⟩
set_option maxHeartbeats 400000 in
theorem fail_any (c : Int) (w : World) : Calls Tryd.prog 49 #[.int .i64 c] w fun e w' => e = .returned (.agg #[.int .i64 c, .slice none 0 0]) ∧ Below w.heap.size w w' := by
  go_enter Tryd.func49, Tryd.ntmps49
  go_wp2
  exact bodyPost_ret (v := .agg #[.int .i64 c, .slice none 0 0]) (by simp [results, Tryd.results49, go_sem]) rfl ⟨rfl, (Below.refl _ _).alloc (Nat.le_refl _) _⟩

end Go.Proofs.YtnlfnknkiggejaaDoor
