/- Parts: XEncEnd, XRefEnc. -/
import Derived.Test.YtkkgpdejmcpcpaaGreatDoorM07
import Derived.Test.YtkkgpdejmcpcpaaGreatDoorM10
/- The encoder's End. -/
namespace Go.Proofs.YtkkgpdejmcpcpaaGreatDoor
open Go.RowKit

theorem trim_snoc (l : List UInt8) (x : UInt8) : trim (l ++ [x]) = if x = 0 then trim l else l ++ [x] := by
  unfold trim
  rw [List.reverse_append]
  simp only [List.reverse_cons, List.reverse_nil, List.nil_append, List.singleton_append, trimRev]
  split
  · rfl
  · simp
theorem trim_nil : trim [] = [] := rfl

theorem Blk.newAt {n : Nat} (w : World) (t : TypeId) (cs : Array Value) (hn : n = w.heap.size) : Blk (w.alloc (.cells cs t)) n t cs := by subst hn; exact Blk.new w t cs
theorem own_lit_at {base n : Nat} {t : TypeId} (w : World) (hn : n = w.heap.size) (hb : base ≤ n) : (w.alloc (.cells #[] t)).ownsRow base t 1 (.slice (some ⟨n, 0, none⟩) 0 0) 0 [] := by subst hn; exact World.ownsRow_lit w #[] 0 hb (by unfold maxLen; omega) rfl
theorem grown_blk {w w1 : World} {row : Option Nat} {B : Nat} {t : TypeId} {cs : Array Value} (h : w.grownBy w1 row) (hb : Blk w B t cs) (hne : some B ≠ row) : Blk w1 B t cs := (h.block B hb.lt hne).trans hb

theorem own_pop {w : World} {base g n cap : Nat} {t : TypeId} {xs : List Value} {x : Value} (h : w.ownsRow base t 1 (.slice (some ⟨g, 0, none⟩) (n + 1) cap) (n + 1) (xs ++ [x])) : w.ownsRow base t 1 (.slice (some ⟨g, 0, none⟩) n cap) n xs := by
  have hlen : xs.length = n := by have := h.1; simp at this; omega
  rcases h.2 with ⟨h1, _⟩ | ⟨g', c', cur, h1, hb, h2, h3, h4, h5, h6⟩
  · cases h1
  · injection h1 with h1 _ h1c
    injection h1 with h1
    injection h1 with h1
    subst h1 h1c
    refine ⟨by omega, .inr ⟨g, cap, cur, rfl, hb, h2, by omega, h4, h5, ?_⟩⟩
    have : (cur.toList.take ((n + 1) * 1)).take n = (xs ++ [x]).take n := by rw [h6]
    rw [List.take_take, List.take_left' hlen] at this
    rw [← this]
    congr 1
    omega

def fourV (low : Nat) : Array Value := #[.int .u8 ((UInt8.ofNat (low / 16777216)).toNat : Nat), .int .u8 ((UInt8.ofNat (low / 65536)).toNat : Nat), .int .u8 ((UInt8.ofNat (low / 256)).toNat : Nat), .int .u8 ((UInt8.ofNat low).toNat : Nat)]
theorem byte_of (n k : Nat) : IntKind.u8.wrap ((n : Int) / (k : Int)) = (((UInt8.ofNat (n / k)).toNat : Nat) : Int) := by
  have := wu8 (n / k)
  rw [show ((n / k : Nat) : Int) = (n : Int) / (k : Int) from by simp] at this
  rw [this]
  simp

def EndRel (w0 : World) (l : List UInt8) (k : Nat) (v : Value) (wr : World) : Prop :=
  ∃ (g cap n : Nat) (m : List UInt8), k = n ∧ m.length = n ∧ v = .slice (some ⟨g, 0, none⟩) n cap ∧ wr.ownsRow w0.heap.size 5 1 (.slice (some ⟨g, 0, none⟩) n cap) n (m.map byteV) ∧ Below w0.heap.size w0 wr ∧ trim m = trim l ∧ n ≤ 1000000020

set_option maxRecDepth 100000 in
set_option maxHeartbeats 800000 in
theorem enc_end (b : Nat) (v : Value) (e : Enc) (w : World) (he : EncAt w b v e) (hl : e.out.length ≤ 1000000010) (hlow : e.low ≤ 4294967295) :
    Calls Tryz.prog 47 #[.pointer (some ⟨b, 0, none⟩)] w fun y w' => ∃ g cap, y = .returned (.slice (some ⟨g, 0, none⟩) e.bytes.length cap) ∧ w'.ownsRow w.heap.size 5 1 (.slice (some ⟨g, 0, none⟩) e.bytes.length cap) e.bytes.length (e.bytes.map byteV) ∧ Below w.heap.size w w' := by
  obtain ⟨out, low, r⟩ := e
  obtain ⟨i0, hi0, hz0, hz1, hz2⟩ := info_parts info_u8
  have h0 := he.blk.cell 0
  have h1 := he.blk.cell 1
  simp [encCells] at h0 h1
  have hlt := he.blk.lt
  have E := hid he
  have hll : out.length ≤ 1000000010 := hl
  have hlow' : low ≤ 4294967295 := hlow
  clear he hl hlow
  have q1 : IntKind.u64.wrap ((low : Int) / 16777216) = (low : Int) / 16777216 := wu64 (by omega) (by omega)
  have q2 : IntKind.u64.wrap ((low : Int) / 65536) = (low : Int) / 65536 := wu64 (by omega) (by omega)
  have q3 : IntKind.u64.wrap ((low : Int) / 256) = (low : Int) / 256 := wu64 (by omega) (by omega)
  have p1 : IntKind.u8.wrap ((low : Int) / 16777216) = (((UInt8.ofNat (low / 16777216)).toNat : Nat) : Int) := byte_of low 16777216
  have p2 : IntKind.u8.wrap ((low : Int) / 65536) = (((UInt8.ofNat (low / 65536)).toNat : Nat) : Int) := byte_of low 65536
  have p3 : IntKind.u8.wrap ((low : Int) / 256) = (((UInt8.ofNat (low / 256)).toNat : Nat) : Int) := byte_of low 256
  have p4 := wu8 low
  rw [show low % 256 = (UInt8.ofNat low).toNat from by simp] at p4
  have hfour : four low = [UInt8.ofNat (low / 16777216), UInt8.ofNat (low / 65536), UInt8.ofNat (low / 256), UInt8.ofNat low] := rfl
  generalize UInt8.ofNat (low / 16777216) = c1 at *
  generalize UInt8.ofNat (low / 65536) = c2 at *
  generalize UInt8.ofNat (low / 256) = c3 at *
  generalize UInt8.ofNat low = c4 at *
  have HF := hid hfour
  clear hfour
  go_enter Tryz.func47, Tryz.ntmps47
  go_wp2
  go_cut [3] (fun s W => ∃ g cap, s = .slice (some ⟨g, 0, none⟩) (out.length + 4) cap ∧ W.ownsRow w.heap.size 5 1 s (out ++ four low).length ((out ++ four low).map byteV) ∧ Below w.heap.size w W)
  case first =>
    go_region_held3 (fun W => W.cell? ⟨b, 0, none⟩ = some v ∧ W.cell? ⟨b, 1, none⟩ = some (.int .u64 low))
      (first
        | exact ⟨h0, h1⟩
        | (go_split_ands
           exact ⟨(hgrow2.cell_far _ (by simp at hz1' ⊢; omega) (by simp [Value.ownBlock]; omega)).trans (by assumption), (hgrow2.cell_far _ (by simp at hz1' ⊢; omega) (by simp [Value.ownBlock]; omega)).trans (by assumption)⟩)
        | (go_split_ands
           exact ⟨(World.cell?_alloc_lt _ _ _ (by simp; omega)).trans (by assumption), (World.cell?_alloc_lt _ _ _ (by simp; omega)).trans (by assumption)⟩)
        | (go_split_ands
           exact ⟨(World.cell?_alloc_lt _ _ _ (by simp at hz1' ⊢; omega)).trans (by assumption), (World.cell?_alloc_lt _ _ _ (by simp at hz1' ⊢; omega)).trans (by assumption)⟩)
        | (go_split_ands
           exact ⟨(hgrow.cell_far _ (by simp; omega) (by simp [Value.ownBlock]; omega)).trans (by assumption), (hgrow.cell_far _ (by simp; omega) (by simp [Value.ownBlock]; omega)).trans (by assumption)⟩))
      (first
        | ((refine step_append_form _ (by rfl) (.tmp 4) (.tmp 8) _ (by rfl) w.heap.size 5 i0 (.int .u8 0) 1 1 Tryz.underlying53 hi0 hz0 hz1 hz2 rfl (by omega) (.slice (some ⟨w.heap.size, 0, none⟩) 0 0) 0 [] (by rfl) (by first | exact World.ownsRow_lit w #[] 0 (Nat.le_refl _) (by unfold maxLen; omega) rfl | exact (World.ownsRow_lit w #[] 0 (Nat.le_refl _) (by unfold maxLen; omega) rfl).alloc _) v out.length (out.map byteV) (by rfl) (by first | exact From.of_own ((E.out.own.alloc _).drew) | exact From.of_own (((E.out.own.alloc _).alloc _).drew)) (one_bytes out) (.inl (by simp [Value.ownBlock])) (by unfold maxLen; omega) (by omega) (by first | (simp; done) | (simp; omega)) out.length (out.map byteV) (by simp) (by simp) ?_
            intro g1 cap1 w1 hown hgrow hat hlt1
            have hg1 : w.heap.size ≤ g1 := by rcases hat with h | h <;> simp [Value.ownBlock] at h <;> omega
            have hz1' := hgrow.size))
        | ((refine step_append_form _ (by rfl) (.tmp 4) (.tmp 8) _ (by rfl) w.heap.size 5 i0 (.int .u8 0) 1 1 Tryz.underlying53 hi0 hz0 hz1 hz2 rfl (by omega) (.slice (some ⟨w.heap.size + 1, 0, none⟩) 0 0) 0 [] (by rfl) (by exact own_lit_at (w.alloc _) (by simp) (by omega)) v out.length (out.map byteV) (by rfl) (by exact From.of_own (((E.out.own.alloc _).alloc _).drew)) (one_bytes out) (.inl (by simp [Value.ownBlock])) (by unfold maxLen; omega) (by omega) (by first | (simp; done) | (simp; omega)) out.length (out.map byteV) (by simp) (by simp) ?_
            intro g1 cap1 w1 hown hgrow hat hlt1
            have hg1 : w.heap.size ≤ g1 := by rcases hat with h | h <;> simp [Value.ownBlock] at h <;> omega
            have hz1' := hgrow.size))
        | ((refine step_append_form _ (by rfl) (.tmp 9) (.tmp 33) _ (by rfl) w.heap.size 5 i0 (.int .u8 0) 1 1 Tryz.underlying53 hi0 hz0 hz1 hz2 rfl (by omega) (.slice (some ⟨g1, 0, none⟩) out.length cap1) out.length (out.map byteV) (by rfl) (by first | exact hown | exact hown.alloc _) _ 4 ([c1, c2, c3, c4].map byteV) (by rfl) (by first | exact from_block (Blk.new w1 5 #[.int .u8 (c1.toNat : Nat), .int .u8 (c2.toNat : Nat), .int .u8 (c3.toNat : Nat), .int .u8 (c4.toNat : Nat)]) rfl | exact from_block (grown_blk (B := w.heap.size + 1) hgrow (Blk.newAt (n := w.heap.size + 1) (w.alloc _) 5 #[.int .u8 (c1.toNat : Nat), .int .u8 (c2.toNat : Nat), .int .u8 (c3.toNat : Nat), .int .u8 (c4.toNat : Nat)] (by simp)) (by simp [Value.ownBlock])) rfl | exact from_block (grown_blk (B := w.heap.size) hgrow ((Blk.new w 5 #[.int .u8 (c1.toNat : Nat), .int .u8 (c2.toNat : Nat), .int .u8 (c3.toNat : Nat), .int .u8 (c4.toNat : Nat)]).alloc _) (by simp [Value.ownBlock])) rfl) (one_bytes _) (.inl (by simp [Value.ownBlock])) (by unfold maxLen; omega) (by omega) (by simp at hz1' ⊢; omega) (out.length + 4) ((out ++ [c1, c2, c3, c4]).map byteV) rfl (by simp) ?_
            intro g2 cap2 w2 hown2 hgrow2 hat2 hlt2)))
    all_goals
      go_wp2_with fail
      go_meet
      refine ⟨g2, cap2, rfl, ?_, ?_⟩
      · rw [HF.out]
        simpa using hown2
      · first
          | exact (((((Below.refl _ w).alloc (Nat.le_refl _) _).drew).grown hgrow (by simp) (fun k hk => by simp [Value.ownBlock] at hk; omega)).alloc (by simp at hz1' ⊢; omega) _).grown hgrow2 (by simp at hz1' ⊢; omega) (fun k hk => by simp [Value.ownBlock] at hk; omega)
          | exact (((((Below.refl _ w).alloc (Nat.le_refl _) _).alloc (by simp) _).drew).grown hgrow (by simp; omega) (fun k hk => by simp [Value.ownBlock] at hk; omega)).grown hgrow2 (by simp at hz1' ⊢; omega) (fun k hk => by simp [Value.ownBlock] at hk; omega)
  case rest =>
    clear q1 q2 q3 p1 p2 p3 p4 h0 h1
    obtain ⟨g, cap, rfl, hown, hb⟩ := hcut
    have H := hid (And.intro hown hb)
    have hfl : (out ++ four low).length = out.length + 4 := by simp [four]
    have HL := hid hfl
    clear hown hb hfl
    go_wp2_with fail
    go_loopg [3] (out.length + 4) (fun k s wr => EndRel w (out ++ four low) k s wr)
    case atStart =>
      refine ⟨g, cap, out.length + 4, out ++ four low, rfl, HL.out, rfl, ?_, H.out.2, rfl, by omega⟩
      have := H.out.1
      rw [HL.out] at this
      exact this
    case round =>
      clear H HL
      obtain ⟨g, cap, n, m, rfl, hml, rfl, hown, hb, ht, hn⟩ := hrel
      by_cases hm : 0 < m.length
      · obtain ⟨m', x, rfl⟩ := snoc_of m hm
        obtain ⟨n, rfl⟩ : ∃ q, gk = q + 1 := ⟨m'.length, by simp at hml; omega⟩
        have hml' : m'.length = n := by simp at hml; omega
        have hx := hown.cellAt n (by omega)
        rw [← hml'] at hx
        simp [byteV] at hx
        rw [hml'] at hx
        have hxlt := x.toNat_lt
        have hcap : n + 1 ≤ cap := by
          rcases hown.2 with ⟨h1, _⟩ | ⟨g', c', cur, h1, hb, h2, h3, h4, h5, h6⟩
          · cases h1
          · injection h1 with h1 _ h1c
            omega
        have hcap' : (n : Int) ≤ (cap : Int) := by omega
        have hn0 : (0 : Int) ≤ (n : Int) := by omega
        have X := hid (And.intro hown (And.intro hb (And.intro ht hml')))
        clear hown hb ht hm hml hml' hlt hll hlow' hcap
        by_cases h0 : x = 0
        · subst h0
          simp at hx
          go_wp2
          obtain ⟨hown, hb, ht, hml'⟩ := X.out
          go_roundg n
          case measure => omega
          case rel =>
            refine ⟨g, cap, n, m', rfl, hml', rfl, ?_, hb, ?_, by omega⟩
            · rw [List.map_append] at hown
              exact own_pop hown
            · rw [← ht, trim_snoc, if_pos rfl]
        · have hx1 : (((x.toNat : Nat) : Int) == 0) = false := by
            simp
            intro e
            exact h0 (UInt8.toNat_inj.1 (by simpa using e))
          have hx2 : ((x.toNat : Nat) == 0) = false := by
            simp
            intro e
            exact h0 (UInt8.toNat_inj.1 (by simpa using e))
          have X0 := hid h0
          clear h0
          generalize hq : x.toNat = q at *
          clear hq
          go_wp2
          go_ret
          obtain ⟨hown, hb, ht, hml'⟩ := X.out
          have e : Enc.bytes ⟨out, low, r⟩ = m' ++ [x] := by
            unfold Enc.bytes
            rw [← ht, trim_snoc, if_neg X0.out]
          have e2 : (m' ++ [x]).length = n + 1 := by simp [hml']
          refine ⟨g, cap, ?_, ?_, hb⟩
          · rw [e, e2]; rfl
          · rw [e, e2]; exact hown
      · have hm0 : m = [] := List.eq_nil_of_length_eq_zero (by omega)
        subst hm0
        have hn0 : gk = 0 := by simpa using hml.symm
        subst hn0
        have X := hid (And.intro hown (And.intro hb ht))
        clear hown hb ht hm hml hlt hll hlow'
        go_wp2
        go_ret
        obtain ⟨hown, hb, ht⟩ := X.out
        have e : Enc.bytes ⟨out, low, r⟩ = [] := by
          unfold Enc.bytes
          rw [← ht, trim_nil]
        exact ⟨g, cap, by rw [e]; rfl, by rw [e]; exact hown, hb⟩
end Go.Proofs.YtkkgpdejmcpcpaaGreatDoor

/- The document's encoder: its functions. -/
namespace Go.Proofs.YtkkgpdejmcpcpaaGreatDoor
open Go.RowKit

def rencCells (v : Value) (r : Nat) : Array Value := #[v, .int .i64 (r : Nat)]
structure REncAt (w : World) (b : Nat) (v : Value) (e : REnc) : Prop where
  blk : Blk w b 109 (rencCells v e.R)
  own : w.ownsRow 0 5 1 v e.L.length (e.L.map byteV)
  some_ : v.ownBlock ≠ none
  len : e.L.length ≤ 1000000000000

theorem renc_form {w : World} {b : Nat} {v : Value} {e : REnc} (h : REncAt w b v e) : ∃ g cap, v = .slice (some ⟨g, 0, none⟩) e.L.length cap ∧ b ≠ g ∧ g < w.heap.size := by
  rcases h.own.2 with ⟨h1, h2⟩ | ⟨g, cap, cur, h1, _, h2, _⟩
  · exact absurd (by rw [h1]; rfl) h.some_
  · exact ⟨g, cap, h1, Blk.apart h.blk (t' := 5) (cs' := cur) h2 (by decide), (Array.getElem?_eq_some_iff.1 h2).1⟩
theorem renc_apart {w : World} {b : Nat} {v : Value} {e : REnc} (h : REncAt w b v e) : v.ownBlock ≠ some b := by
  obtain ⟨g, cap, rfl, hne, _⟩ := renc_form h
  simp [Value.ownBlock]; omega
theorem renc_n {w : World} {b g n cap : Nat} {e : REnc} (h : REncAt w b (.slice (some ⟨g, 0, none⟩) n cap) e) : n = e.L.length := by
  obtain ⟨g', cap', h1, _⟩ := renc_form h
  injection h1
theorem renc_ne {w : World} {b g n cap : Nat} {e : REnc} (h : REncAt w b (.slice (some ⟨g, 0, none⟩) n cap) e) : b ≠ g := by
  obtain ⟨g', cap', h1, h2, _⟩ := renc_form h
  injection h1 with h1
  injection h1 with h1
  injection h1 with h1
  omega
theorem renc_own {w : World} {b g n cap : Nat} {e : REnc} (h : REncAt w b (.slice (some ⟨g, 0, none⟩) n cap) e) : w.ownsRow 0 5 1 (.slice (some ⟨g, 0, none⟩) n cap) n (e.L.map byteV) := by
  have := h.own
  rw [← renc_n h] at this
  exact this
theorem renc_stored {w : World} {b g n cap r : Nat} {m t : List UInt8} {x : UInt8} (h : REncAt w b (.slice (some ⟨g, 0, none⟩) n cap) ⟨m ++ [x] ++ t, r⟩) (y : UInt8) (j : Nat) (hj : j = m.length) :
    REncAt (w.setCell ⟨g, j, none⟩ (.int .u8 (y.toNat : Nat))) b (.slice (some ⟨g, 0, none⟩) n cap) ⟨m ++ [y] ++ t, r⟩ := by
  subst hj
  have hn := renc_n h
  refine ⟨h.blk.far (renc_ne h) _, ?_, h.some_, ?_⟩
  · have := ((renc_own h).stored m.length (byteV y)).1
    simp only [set_mid] at this
    rw [hn] at this ⊢
    simpa [byteV] using this
  · have := h.len
    simpa using this
theorem renc_R {w : World} {b : Nat} {v : Value} {l : List UInt8} {r : Nat} (h : REncAt w b v ⟨l, r⟩) (r' : Nat) : REncAt (w.setCell ⟨b, 1, none⟩ (.int .i64 (r' : Nat))) b v ⟨l, r'⟩ :=
  ⟨by simpa [rencCells] using h.blk.put 1 (.int .i64 (r' : Nat)), own_far h.own (renc_apart h), h.some_, h.len⟩

theorem addL_snoc (m : List UInt8) (x : UInt8) (v : Nat) : addL (m ++ [x]) v = if v = 0 then m ++ [x] else addL m ((v + x.toNat) / 256) ++ [UInt8.ofNat (v + x.toNat)] := by
  unfold addL
  rw [List.reverse_append]
  simp only [List.reverse_cons, List.reverse_nil, List.nil_append, List.singleton_append, addRev]
  split
  · simp
  · simp
theorem addL_nil (v : Nat) : addL [] v = [] := rfl
theorem addL_zero (m : List UInt8) : addL m 0 = m := by
  unfold addL
  cases h : m.reverse with
  | nil => simp only [addRev]; rw [← h, List.reverse_reverse]
  | cons x l => simp only [addRev, if_true]; rw [← h, List.reverse_reverse]
theorem addRev_length (l : List UInt8) (v : Nat) : (addRev l v).length = l.length := by
  induction l generalizing v with
  | nil => rfl
  | cons x l ih => simp only [addRev]; split <;> simp [ih]
theorem addL_length (l : List UInt8) (v : Nat) : (addL l v).length = l.length := by
  unfold addL; rw [List.length_reverse, addRev_length, List.length_reverse]

def AddRel (w0 : World) (b g n cap r : Nat) (L : List UInt8) (v0 : Nat) (k : Nat) (vv i : Value) (wr : World) : Prop :=
  ∃ (m t : List UInt8) (v : Nat), k = m.length ∧ i = .int .i64 ((m.length : Int) - 1) ∧ vv = .int .i64 (v : Nat) ∧ m.length + t.length = n ∧
    REncAt wr b (.slice (some ⟨g, 0, none⟩) n cap) ⟨m ++ t, r⟩ ∧ addL L v0 = addL m v ++ t ∧ Only (fun k => k = b ∨ k = g) w0 wr ∧ v ≤ 4294967296
def AddPost (w0 : World) (b g n cap r : Nat) (L : List UInt8) (v0 : Nat) (w' : World) : Prop :=
  REncAt w' b (.slice (some ⟨g, 0, none⟩) n cap) ⟨addL L v0, r⟩ ∧ Only (fun k => k = b ∨ k = g) w0 w'

set_option maxRecDepth 100000 in
set_option maxHeartbeats 400000 in
theorem add_any (b g n cap r v0 : Nat) (L : List UInt8) (w : World) (he : REncAt w b (.slice (some ⟨g, 0, none⟩) n cap) ⟨L, r⟩) (hv0 : v0 ≤ 4294967296) :
    Calls Tryz.prog 102 #[.pointer (some ⟨b, 0, none⟩), .int .i64 v0] w fun e w' => e = .returned (.tuple #[]) ∧ AddPost w b g n cap r L v0 w' := by
  have h0 := he.blk.cell 0
  simp [rencCells] at h0
  have hn := renc_n he
  have hlen : n ≤ 1000000000000 := by rw [hn]; exact he.len
  have E := hid (And.intro he hn)
  clear he hn
  go_enter Tryz.func102, Tryz.ntmps102
  go_wp2
  go_loopg [1, 4] n (fun k vv i wr => AddRel w b g n cap r L v0 k vv i wr)
  case atStart => exact ⟨L, [], v0, E.out.2, by rw [← show n = L.length from E.out.2], rfl, by rw [show n = L.length from E.out.2]; simp, by simpa using E.out.1, by simp, Only.refl _ _, hv0⟩
  case round =>
    clear h0
    obtain ⟨m, t, v, rfl, rfl, rfl, hz, he, hc, ho, hv⟩ := hrel
    have hne := renc_ne he
    have h0 := he.blk.cell 0
    simp [rencCells] at h0
    by_cases hl : 0 < m.length
    · obtain ⟨m, x, rfl⟩ := snoc_of m hl
      have hi : (((m ++ [x]).length : Nat) : Int) - 1 = (m.length : Int) := by simp
      rw [hi]
      have hx := (renc_own he).cellAt m.length (by simp at hz; omega)
      have fx := (renc_own he).frozenAt m.length
      simp [byteV] at hx
      have hb : (0 : Int) ≤ (m.length : Int) := by omega
      have hb2 : (m.length : Int) < (n : Int) := by simp at hz; omega
      have X := hid (And.intro he (And.intro hc (And.intro ho hz)))
      have hxlt := x.toNat_lt
      clear he hc ho hi hl hz
      generalize hm : m.length = ml at *
      have M := hid hm
      clear hm
      by_cases h1 : v = 0
      · subst h1
        have hgt : decide ((0 : Int) < ((0 : Nat) : Int)) = false := by simp
        go_wp2
        go_end0
        obtain ⟨he, hc, ho, hz⟩ := X.out
        refine ⟨rfl, ?_, ho⟩
        rw [hc, addL_zero]
        exact he
      · have hgt : decide ((0 : Int) < (v : Int)) = true := by simp; omega
        have V := hid h1
        have hvp : (0 : Int) < (v : Int) := by omega
        have q1 : IntKind.u8.wrap ((v : Int) + (x.toNat : Int)) = ((UInt8.ofNat (v + x.toNat)).toNat : Int) := by
          have := wu8 (v + x.toNat)
          rw [show ((v + x.toNat : Nat) : Int) = (v : Int) + (x.toNat : Int) from by omega] at this
          rw [this]
          simp
        generalize hq : UInt8.ofNat (v + x.toNat) = q at *
        generalize hxn : x.toNat = xn at *
        have Q := hid (And.intro hq hxn)
        clear hq hxn h1
        go_wp2
        obtain ⟨he, hc, ho, hz⟩ := X.out
        have hml := M.out
        go_roundg ml
        case measure => simp; omega
        case rel =>
          refine ⟨m, q :: t, (v + xn) / 256, hml.symm, by rw [hml], by congr 1, by simp at hz ⊢; omega, ?_, ?_, ho.setCell (fun _ => .inr rfl) _, by omega⟩
          · have := renc_stored he q ml hml.symm
            simpa using this
          · rw [hc, addL_snoc, if_neg V.out, Q.out.2, Q.out.1]
            simp
    · have hm0 : m = [] := List.eq_nil_of_length_eq_zero (by omega)
      subst hm0
      have X := hid (And.intro he (And.intro hc (And.intro ho hz)))
      clear he hc ho hz hl
      go_wp2
      go_end0
      obtain ⟨he, hc, ho, hz⟩ := X.out
      refine ⟨rfl, ?_, ho⟩
      rw [hc, addL_nil]
      exact he

def RMoved (w : World) (b : Nat) (v : Value) (e : REnc) (w' : World) : Prop := ∃ v', REncAt w' b v' e ∧ Only (Fp b v) w w' ∧ Fresh w v v'
def RHalf (w0 : World) (b : Nat) (v : Value) (e : REnc) (W : World) : Prop := REncAt W b v e ∧ Only (Fp b v) w0 W
theorem add_all (b : Nat) (v0 : Nat) (x : Int) (hx : x = (v0 : Nat)) (v : Value) (e : REnc) (w : World) (he : REncAt w b v e) (hv0 : v0 ≤ 4294967296) :
    Calls Tryz.prog 102 #[.pointer (some ⟨b, 0, none⟩), .int .i64 x] w fun y w' => y = .returned (.tuple #[]) ∧ RHalf w b v ⟨addL e.L v0, e.R⟩ w' := by
  subst hx
  obtain ⟨g, cap, rfl, _, _⟩ := renc_form he
  obtain ⟨l, r⟩ := e
  refine (add_any b g _ cap r v0 l w he hv0).mono ?_
  rintro y w' ⟨h1, h2, h3⟩
  refine ⟨h1, h2, h3.mono fun k _ hk => ?_⟩
  rcases hk with hk | hk
  · exact .inl hk
  · exact .inr (by rw [hk]; rfl)

def RLoop (w0 : World) (b : Nat) (v : Value) (fin : REnc) (k : Nat) (wr : World) : Prop :=
  ∃ v' l r, REncAt wr b v' ⟨l, r⟩ ∧ Only (Fp b v) w0 wr ∧ Fresh w0 v v' ∧ REnc.norm k ⟨l, r⟩ = fin ∧ lowR k ≤ r ∧ r ≤ 4294967295 ∧ l.length + k ≤ 1000000020

set_option maxRecDepth 100000 in
set_option maxHeartbeats 400000 in
theorem renc_narrow (b x : Nat) (v : Value) (u : Bool) (l : List UInt8) (r : Nat) (w : World) (he : REncAt w b v ⟨l, r⟩) (hx1 : 1 ≤ x) (hx2 : x < r) (hr : r ≤ 4294967295) (hl : l.length ≤ 1000000004) :
    Calls Tryz.prog 98 #[.pointer (some ⟨b, 0, none⟩), .int .i64 x, .bool u] w fun y w' => y = .returned (.tuple #[]) ∧ RMoved w b v (REnc.narrow ⟨l, r⟩ x u) w' := by
  have h1 := he.blk.cell 1
  have f1 := he.blk.frozen 1
  simp [rencCells] at h1
  have E := hid he
  clear he
  go_enter Tryz.func98, Tryz.ntmps98
  go_upto_if 6 with fail
  go_cut [] (fun W => RHalf w b v (REnc.part ⟨l, r⟩ x u) W)
  case first =>
    cases u with
    | false =>
      go_wp2_with fail
      go_meet
      exact ⟨by simpa [REnc.part] using renc_R E.out x, (Only.refl _ w).put (.inl rfl) 1 _⟩
    | true =>
      clear h1 f1
      go_wp2_with fail
      refine (add_all b x _ rfl v ⟨l, r⟩ _ E.out (by omega)).mono ?_
      rintro y w' ⟨rfl, hp, ho⟩
      have h1 := hp.blk.cell 1
      have f1 := hp.blk.frozen 1
      simp [rencCells] at h1
      have e2 : ((r : Int) - (x : Int)) = ((r - x : Nat) : Int) := by omega
      have A := hid e2
      have G := hid (And.intro hp ho)
      clear hp ho e2
      go_wp2_with fail
      go_meet
      rw [A.out]
      exact ⟨by simpa [REnc.part] using renc_R G.out.1 (r - x), G.out.2.put (.inl rfl) 1 _⟩
  case rest =>
    clear h1 f1
    have hp : ∃ o r', REnc.part ⟨l, r⟩ x u = ⟨o, r'⟩ ∧ 1 ≤ r' ∧ r' ≤ 4294967295 ∧ o.length = l.length := by
      cases u with
      | false => exact ⟨l, x, by simp [REnc.part], by omega, by omega, rfl⟩
      | true => exact ⟨addL l x, r - x, by simp [REnc.part], by omega, by omega, addL_length _ _⟩
    have C := hid (And.intro hcut hp)
    clear hcut hp
    go_wp2_with fail
    go_loopg [] 3 (fun k wr => RLoop w b v (REnc.narrow ⟨l, r⟩ x u) k wr)
    case atStart =>
      obtain ⟨⟨he, ho⟩, o, r', e, h1, h2, h3⟩ := C.out
      rw [e] at he
      refine ⟨v, o, r', he, ho, fun k hk => .inl hk, ?_, h1, h2, by omega⟩
      unfold REnc.narrow
      rw [e]
    case round =>
      clear C E
      obtain ⟨v', l, r, he, ho, hf, hn, hr1, hr2, hol⟩ := hrel
      have h0 := he.blk.cell 0
      have h1 := he.blk.cell 1
      have f0 := he.blk.frozen 0
      have f1 := he.blk.frozen 1
      simp [rencCells] at h0 h1
      have hap := renc_apart he
      have hown := he.own
      have hlt := he.blk.lt
      have hsome := he.some_
      simp only at hown
      have H := hid (And.intro he (And.intro ho (And.intro hf hn)))
      have O := hid (And.intro hap (And.intro hown hsome))
      clear he ho hf hn hap hown hsome
      by_cases hlt' : r < 16777216
      · have B := hid (And.intro hr1 hlt')
        have hlt'' : decide ((r : Int) < 16777216) = true := by simp; omega
        have ws : IntKind.i64.wrap ((r : Int) * 256) = (r : Int) * 256 := IntWalk.i64_in _ (by omega)
        clear hr1 hlt'
        obtain ⟨i0, hi0, hz0, hz1, hz2⟩ := info_parts info_u8
        go_wp2_with
          (first
            | (at_builtin
               refine wpList_append_form _ rfl _ _ _ rfl 0 5 i0 (.int .u8 0) 1 1 Tryz.underlying53 hi0 hz0 hz1 hz2 rfl (by omega) v' l.length (l.map byteV) rfl (O.out.2.1.alloc _) (.slice (some ⟨wr.heap.size, 0, none⟩) 1 1) 1 ([0].map byteV) rfl (from_block (Blk.new wr 5 #[.int .u8 0]) rfl) (one_bytes _) (.inl O.out.2.2) (by unfold maxLen; omega) (by omega) (by simp) (l.length + 1) ((l ++ [0]).map byteV) rfl (by simp) ?_
               intro gg cap w1 hown1 hgrow hat hlt1
               have k0 := (hgrow.cell_far ⟨b, 0, none⟩ (by simp; omega) (Ne.symm O.out.1)).trans ((World.cell?_alloc_lt _ _ _ hlt).trans h0)
               have g0 := (hgrow.frozen_far ⟨b, 0, none⟩ (by simp; omega) (Ne.symm O.out.1)).trans ((World.frozen?_alloc_old _ _ _ (Nat.ne_of_lt hlt)).trans f0)
               have k1 := (hgrow.cell_far ⟨b, 1, none⟩ (by simp; omega) (Ne.symm O.out.1)).trans ((World.cell?_alloc_lt _ _ _ hlt).trans h1)
               have g1 := (hgrow.frozen_far ⟨b, 1, none⟩ (by simp; omega) (Ne.symm O.out.1)).trans ((World.frozen?_alloc_old _ _ _ (Nat.ne_of_lt hlt)).trans f1)
               have GW := hid (And.intro hown1 (And.intro hgrow hat))
               clear hown1 hgrow hat hlt1))
        obtain ⟨he, ho, hf, hn⟩ := H.out
        obtain ⟨hown1, hgrow, hat⟩ := GW.out
        obtain ⟨k, rfl⟩ : ∃ k, gk = k + 1 := by
          cases gk with
          | zero => exact absurd B.out (by simp only [lowR]; omega)
          | succ k => exact ⟨k, rfl⟩
        have hB1 : Blk w1 b 109 (rencCells v' r) := (hgrow.block b (by simp; omega) (Ne.symm O.out.1)).trans (he.blk.alloc _)
        have hgb : gg ≠ b := by
          intro e
          subst e
          rcases hat with h | h
          · exact O.out.1 h
          · simp at h; omega
        go_roundg k
        case measure => omega
        case rel =>
          refine ⟨.slice (some ⟨gg, 0, none⟩) (l.length + 1) cap, l ++ [0], r * 256, ⟨?_, ?_, by simp [Value.ownBlock], by simp; omega⟩, ?_, ?_, ?_, lowR_next B.out.1, by have := B.out; omega, by simp; omega⟩
          · have := (hB1.put 0 (.slice (some ⟨gg, 0, none⟩) (l.length + 1) cap)).put 1 (.int .i64 (r * 256 : Nat))
            simpa [rencCells] using this
          · have := own_far (b := b) (i := 1) (u := .int .i64 ((r : Int) * 256)) (own_far (b := b) (i := 0) (u := .slice (some ⟨gg, 0, none⟩) (l.length + 1) cap) hown1 (by simpa [Value.ownBlock] using hgb)) (by simpa [Value.ownBlock] using hgb)
            simpa [byteV] using this
          · refine Only.put (Only.put ?_ (.inl rfl) 0 _) (.inl rfl) 1 _
            refine ho.then (S' := Fp b v') ((((Only.refl _ wr).alloc _)).grown hgrow (fun k hk _ => .inr hk)) (fun i hi hs => ?_)
            rcases hs with hs | hs
            · exact .inl hs
            · rcases hf i hs with h | h
              · exact .inr h
              · omega
          · intro i hi
            have hi' : gg = i := by simpa [Value.ownBlock] using hi
            subst hi'
            rcases hat with h | h
            · exact hf _ h
            · have := ho.size
              simp at h
              exact .inr (by omega)
          · rw [← hn]
            simp [REnc.norm, B.out.2, REnc.step]
      · have hge : decide ((r : Int) < 16777216) = false := by simp; omega
        have B := hid hlt'
        clear hlt' hr1
        go_wp2
        go_end0
        obtain ⟨he, ho, hf, hn⟩ := H.out
        refine ⟨rfl, v', ?_, ho, hf⟩
        rw [← hn]
        cases gk with
        | zero => exact he
        | succ k => rw [REnc.norm, if_neg B.out]; exact he
end Go.Proofs.YtkkgpdejmcpcpaaGreatDoor

