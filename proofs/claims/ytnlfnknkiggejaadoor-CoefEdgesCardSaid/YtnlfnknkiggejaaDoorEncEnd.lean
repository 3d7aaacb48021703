/- The encoder's End. -/
import Derived.Test.YtnlfnknkiggejaaDoorRacNew
namespace Go.Proofs.YtnlfnknkiggejaaDoor
open Go.RowKit

theorem trim_snoc (l : List UInt8) (x : UInt8) : trim (l ++ [x]) = if x = 0 then trim l else l ++ [x] := by
  unfold trim
  rw [List.reverse_append]
  simp only [List.reverse_cons, List.reverse_nil, List.nil_append, List.singleton_append, trimRev]
  split
  · rfl
  · simp
theorem trim_nil : trim [] = [] := rfl

theorem Blk.newAt {n : Nat} (w : World) (t : TypeId) (cs : Array Value) (hn : n = w.heap.size) : Blk (w.alloc (.cells cs t)) n t cs := by subst hn; exact Blk.new w t cs
theorem own_lit_at {base n : Nat} {t : TypeId} (w : World) (hn : n = w.heap.size) (hb : base ≤ n) : (w.alloc (.cells #[] t)).ownsRow base t 1 (.slice (some ⟨n, 0, none⟩) 0 0) 0 [] := by subst hn; exact World.ownsRow_lit w #[] 0 hb (by unfold maxLen; omega) rfl
theorem grown_blk {w w1 : World} {row : Option Nat} {B : Nat} {t : TypeId} {cs : Array Value} (h : w.grownBy w1 row) (hb : Blk w B t cs) (hne : some B ≠ row) : Blk w1 B t cs := (h.block B hb.lt hne).trans hb

theorem own_pop {w : World} {base g n cap : Nat} {t : TypeId} {xs : List Value} {x : Value} (h : w.ownsRow base t 1 (.slice (some ⟨g, 0, none⟩) (n + 1) cap) (n + 1) (xs ++ [x])) : w.ownsRow base t 1 (.slice (some ⟨g, 0, none⟩) n cap) n xs := by
  have hlen : xs.length = n := by have := h.1; simp at this; omega
  rcases h.2 with ⟨h1, _⟩ | ⟨g', c', cur, h1, hb, h2, h3, h4, h5, h6⟩
  · cases h1
  · injection h1 with h1 _ h1c
    injection h1 with h1
    injection h1 with h1
    subst h1 h1c
    refine ⟨by omega, .inr ⟨g, cap, cur, rfl, hb, h2, by omega, h4, h5, ?_⟩⟩
    have : (cur.toList.take ((n + 1) * 1)).take n = (xs ++ [x]).take n := by rw [h6]
    rw [List.take_take, List.take_left' hlen] at this
    rw [← this]
    congr 1
    omega

def fourV (low : Nat) : Array Value := #[.int .u8 ((UInt8.ofNat (low / 16777216)).toNat : Nat), .int .u8 ((UInt8.ofNat (low / 65536)).toNat : Nat), .int .u8 ((UInt8.ofNat (low / 256)).toNat : Nat), .int .u8 ((UInt8.ofNat low).toNat : Nat)]
theorem byte_of (n k : Nat) : IntKind.u8.wrap ((n : Int) / (k : Int)) = (((UInt8.ofNat (n / k)).toNat : Nat) : Int) := by
  have := wu8 (n / k)
  rw [show ((n / k : Nat) : Int) = (n : Int) / (k : Int) from by simp] at this
  rw [this]
  simp

def EndRel (w0 : World) (l : List UInt8) (k : Nat) (v : Value) (wr : World) : Prop :=
  ∃ (g cap n : Nat) (m : List UInt8), k = n ∧ m.length = n ∧ v = .slice (some ⟨g, 0, none⟩) n cap ∧ wr.ownsRow w0.heap.size 5 1 (.slice (some ⟨g, 0, none⟩) n cap) n (m.map byteV) ∧ Below w0.heap.size w0 wr ∧ trim m = trim l ∧ n ≤ 1000000020

set_option maxRecDepth 100000 in
set_option maxHeartbeats 800000 in
theorem enc_end (b : Nat) (v : Value) (e : Enc) (w : World) (he : EncAt w b v e) (hl : e.out.length ≤ 1000000010) (hlow : e.low ≤ 4294967295) :
    Calls Tryd.prog 69 #[.pointer (some ⟨b, 0, none⟩)] w fun y w' => ∃ g cap, y = .returned (.slice (some ⟨g, 0, none⟩) e.bytes.length cap) ∧ w'.ownsRow w.heap.size 5 1 (.slice (some ⟨g, 0, none⟩) e.bytes.length cap) e.bytes.length (e.bytes.map byteV) ∧ Below w.heap.size w w' := by
  obtain ⟨out, low, r⟩ := e
  obtain ⟨i0, hi0, hz0, hz1, hz2⟩ := info_parts info_u8
  have h0 := he.blk.cell 0
  have h1 := he.blk.cell 1
  simp [encCells] at h0 h1
  have hlt := he.blk.lt
  have E := hid he
  have hll : out.length ≤ 1000000010 := hl
  have hlow' : low ≤ 4294967295 := hlow
  clear he hl hlow
  have q1 : IntKind.u64.wrap ((low : Int) / 16777216) = (low : Int) / 16777216 := wu64 (by omega) (by omega)
  have q2 : IntKind.u64.wrap ((low : Int) / 65536) = (low : Int) / 65536 := wu64 (by omega) (by omega)
  have q3 : IntKind.u64.wrap ((low : Int) / 256) = (low : Int) / 256 := wu64 (by omega) (by omega)
  have p1 : IntKind.u8.wrap ((low : Int) / 16777216) = (((UInt8.ofNat (low / 16777216)).toNat : Nat) : Int) := byte_of low 16777216
  have p2 : IntKind.u8.wrap ((low : Int) / 65536) = (((UInt8.ofNat (low / 65536)).toNat : Nat) : Int) := byte_of low 65536
  have p3 : IntKind.u8.wrap ((low : Int) / 256) = (((UInt8.ofNat (low / 256)).toNat : Nat) : Int) := byte_of low 256
  have p4 := wu8 low
  rw [show low % 256 = (UInt8.ofNat low).toNat from by simp] at p4
  have hfour : four low = [UInt8.ofNat (low / 16777216), UInt8.ofNat (low / 65536), UInt8.ofNat (low / 256), UInt8.ofNat low] := rfl
  generalize UInt8.ofNat (low / 16777216) = c1 at *
  generalize UInt8.ofNat (low / 65536) = c2 at *
  generalize UInt8.ofNat (low / 256) = c3 at *
  generalize UInt8.ofNat low = c4 at *
  have HF := hid hfour
  clear hfour
  go_enter Tryd.func69, Tryd.ntmps69
  go_wp2
  go_cut [3] (fun s W => ∃ g cap, s = .slice (some ⟨g, 0, none⟩) (out.length + 4) cap ∧ W.ownsRow w.heap.size 5 1 s (out ++ four low).length ((out ++ four low).map byteV) ∧ Below w.heap.size w W)
  case first =>
    go_region_held3 (fun W => W.cell? ⟨b, 0, none⟩ = some v ∧ W.cell? ⟨b, 1, none⟩ = some (.int .u64 low))
      (first
        | exact ⟨h0, h1⟩
        | (go_split_ands
           exact ⟨(hgrow2.cell_far _ (by simp at hz1' ⊢; omega) (by simp [Value.ownBlock]; omega)).trans (by assumption), (hgrow2.cell_far _ (by simp at hz1' ⊢; omega) (by simp [Value.ownBlock]; omega)).trans (by assumption)⟩)
        | (go_split_ands
           exact ⟨(World.cell?_alloc_lt _ _ _ (by simp; omega)).trans (by assumption), (World.cell?_alloc_lt _ _ _ (by simp; omega)).trans (by assumption)⟩)
        | (go_split_ands
           exact ⟨(World.cell?_alloc_lt _ _ _ (by simp at hz1' ⊢; omega)).trans (by assumption), (World.cell?_alloc_lt _ _ _ (by simp at hz1' ⊢; omega)).trans (by assumption)⟩)
        | (go_split_ands
           exact ⟨(hgrow.cell_far _ (by simp; omega) (by simp [Value.ownBlock]; omega)).trans (by assumption), (hgrow.cell_far _ (by simp; omega) (by simp [Value.ownBlock]; omega)).trans (by assumption)⟩))
      (first
        | ((refine step_append_form _ (by rfl) (.tmp 4) (.tmp 8) _ (by rfl) w.heap.size 5 i0 (.int .u8 0) 1 1 Tryd.underlying44 hi0 hz0 hz1 hz2 rfl (by omega) (.slice (some ⟨w.heap.size, 0, none⟩) 0 0) 0 [] (by rfl) (by first | exact World.ownsRow_lit w #[] 0 (Nat.le_refl _) (by unfold maxLen; omega) rfl | exact (World.ownsRow_lit w #[] 0 (Nat.le_refl _) (by unfold maxLen; omega) rfl).alloc _) v out.length (out.map byteV) (by rfl) (by first | exact From.of_own ((E.out.own.alloc _).drew) | exact From.of_own (((E.out.own.alloc _).alloc _).drew)) (one_bytes out) (.inl (by simp [Value.ownBlock])) (by unfold maxLen; omega) (by omega) (by first | (simp; done) | (simp; omega)) out.length (out.map byteV) (by simp) (by simp) ?_
            intro g1 cap1 w1 hown hgrow hat hlt1
            have hg1 : w.heap.size ≤ g1 := by rcases hat with h | h <;> simp [Value.ownBlock] at h <;> omega
            have hz1' := hgrow.size))
        | ((refine step_append_form _ (by rfl) (.tmp 4) (.tmp 8) _ (by rfl) w.heap.size 5 i0 (.int .u8 0) 1 1 Tryd.underlying44 hi0 hz0 hz1 hz2 rfl (by omega) (.slice (some ⟨w.heap.size + 1, 0, none⟩) 0 0) 0 [] (by rfl) (by exact own_lit_at (w.alloc _) (by simp) (by omega)) v out.length (out.map byteV) (by rfl) (by exact From.of_own (((E.out.own.alloc _).alloc _).drew)) (one_bytes out) (.inl (by simp [Value.ownBlock])) (by unfold maxLen; omega) (by omega) (by first | (simp; done) | (simp; omega)) out.length (out.map byteV) (by simp) (by simp) ?_
            intro g1 cap1 w1 hown hgrow hat hlt1
            have hg1 : w.heap.size ≤ g1 := by rcases hat with h | h <;> simp [Value.ownBlock] at h <;> omega
            have hz1' := hgrow.size))
        | ((refine step_append_form _ (by rfl) (.tmp 9) (.tmp 33) _ (by rfl) w.heap.size 5 i0 (.int .u8 0) 1 1 Tryd.underlying44 hi0 hz0 hz1 hz2 rfl (by omega) (.slice (some ⟨g1, 0, none⟩) out.length cap1) out.length (out.map byteV) (by rfl) (by first | exact hown | exact hown.alloc _) _ 4 ([c1, c2, c3, c4].map byteV) (by rfl) (by first | exact from_block (Blk.new w1 5 #[.int .u8 (c1.toNat : Nat), .int .u8 (c2.toNat : Nat), .int .u8 (c3.toNat : Nat), .int .u8 (c4.toNat : Nat)]) rfl | exact from_block (grown_blk (B := w.heap.size + 1) hgrow (Blk.newAt (n := w.heap.size + 1) (w.alloc _) 5 #[.int .u8 (c1.toNat : Nat), .int .u8 (c2.toNat : Nat), .int .u8 (c3.toNat : Nat), .int .u8 (c4.toNat : Nat)] (by simp)) (by simp [Value.ownBlock])) rfl | exact from_block (grown_blk (B := w.heap.size) hgrow ((Blk.new w 5 #[.int .u8 (c1.toNat : Nat), .int .u8 (c2.toNat : Nat), .int .u8 (c3.toNat : Nat), .int .u8 (c4.toNat : Nat)]).alloc _) (by simp [Value.ownBlock])) rfl) (one_bytes _) (.inl (by simp [Value.ownBlock])) (by unfold maxLen; omega) (by omega) (by simp at hz1' ⊢; omega) (out.length + 4) ((out ++ [c1, c2, c3, c4]).map byteV) rfl (by simp) ?_
            intro g2 cap2 w2 hown2 hgrow2 hat2 hlt2)))
    all_goals
      go_wp2_with fail
      go_meet
      refine ⟨g2, cap2, rfl, ?_, ?_⟩
      · rw [HF.out]
        simpa using hown2
      · first
          | exact (((((Below.refl _ w).alloc (Nat.le_refl _) _).drew).grown hgrow (by simp) (fun k hk => by simp [Value.ownBlock] at hk; omega)).alloc (by simp at hz1' ⊢; omega) _).grown hgrow2 (by simp at hz1' ⊢; omega) (fun k hk => by simp [Value.ownBlock] at hk; omega)
          | exact (((((Below.refl _ w).alloc (Nat.le_refl _) _).alloc (by simp) _).drew).grown hgrow (by simp; omega) (fun k hk => by simp [Value.ownBlock] at hk; omega)).grown hgrow2 (by simp at hz1' ⊢; omega) (fun k hk => by simp [Value.ownBlock] at hk; omega)
  case rest =>
    clear q1 q2 q3 p1 p2 p3 p4 h0 h1
    obtain ⟨g, cap, rfl, hown, hb⟩ := hcut
    have H := hid (And.intro hown hb)
    have hfl : (out ++ four low).length = out.length + 4 := by simp [four]
    have HL := hid hfl
    clear hown hb hfl
    go_wp2_with fail
    go_loopg [3] (out.length + 4) (fun k s wr => EndRel w (out ++ four low) k s wr)
    case atStart =>
      refine ⟨g, cap, out.length + 4, out ++ four low, rfl, HL.out, rfl, ?_, H.out.2, rfl, by omega⟩
      have := H.out.1
      rw [HL.out] at this
      exact this
    case round =>
      clear H HL
      obtain ⟨g, cap, n, m, rfl, hml, rfl, hown, hb, ht, hn⟩ := hrel
      by_cases hm : 0 < m.length
      · obtain ⟨m', x, rfl⟩ := snoc_of m hm
        obtain ⟨n, rfl⟩ : ∃ q, gk = q + 1 := ⟨m'.length, by simp at hml; omega⟩
        have hml' : m'.length = n := by simp at hml; omega
        have hx := hown.cellAt n (by omega)
        rw [← hml'] at hx
        simp [byteV] at hx
        rw [hml'] at hx
        have hxlt := x.toNat_lt
        have hcap : n + 1 ≤ cap := by
          rcases hown.2 with ⟨h1, _⟩ | ⟨g', c', cur, h1, hb, h2, h3, h4, h5, h6⟩
          · cases h1
          · injection h1 with h1 _ h1c
            omega
        have hcap' : (n : Int) ≤ (cap : Int) := by omega
        have hn0 : (0 : Int) ≤ (n : Int) := by omega
        have X := hid (And.intro hown (And.intro hb (And.intro ht hml')))
        clear hown hb ht hm hml hml' hlt hll hlow' hcap
        by_cases h0 : x = 0
        · subst h0
          simp at hx
          go_wp2
          obtain ⟨hown, hb, ht, hml'⟩ := X.out
          go_roundg n
          case measure => omega
          case rel =>
            refine ⟨g, cap, n, m', rfl, hml', rfl, ?_, hb, ?_, by omega⟩
            · rw [List.map_append] at hown
              exact own_pop hown
            · rw [← ht, trim_snoc, if_pos rfl]
        · have hx1 : (((x.toNat : Nat) : Int) == 0) = false := by
            simp
            intro e
            exact h0 (UInt8.toNat_inj.1 (by simpa using e))
          have hx2 : ((x.toNat : Nat) == 0) = false := by
            simp
            intro e
            exact h0 (UInt8.toNat_inj.1 (by simpa using e))
          have X0 := hid h0
          clear h0
          generalize hq : x.toNat = q at *
          clear hq
          go_wp2
          go_ret
          obtain ⟨hown, hb, ht, hml'⟩ := X.out
          have e : Enc.bytes ⟨out, low, r⟩ = m' ++ [x] := by
            unfold Enc.bytes
            rw [← ht, trim_snoc, if_neg X0.out]
          have e2 : (m' ++ [x]).length = n + 1 := by simp [hml']
          refine ⟨g, cap, ?_, ?_, hb⟩
          · rw [e, e2]; rfl
          · rw [e, e2]; exact hown
      · have hm0 : m = [] := List.eq_nil_of_length_eq_zero (by omega)
        subst hm0
        have hn0 : gk = 0 := by simpa using hml.symm
        subst hn0
        have X := hid (And.intro hown (And.intro hb ht))
        clear hown hb ht hm hml hlt hll hlow'
        go_wp2
        go_ret
        obtain ⟨hown, hb, ht⟩ := X.out
        have e : Enc.bytes ⟨out, low, r⟩ = [] := by
          unfold Enc.bytes
          rw [← ht, trim_nil]
        exact ⟨g, cap, by rw [e]; rfl, by rw [e]; exact hown, hb⟩
end Go.Proofs.YtnlfnknkiggejaaDoor
