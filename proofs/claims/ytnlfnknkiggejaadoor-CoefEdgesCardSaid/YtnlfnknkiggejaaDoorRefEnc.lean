/- The document's encoder: its functions. -/
import Derived.Test.YtnlfnknkiggejaaDoorRefDecMore
import Derived.Test.YtnlfnknkiggejaaDoorEncEnd
namespace Go.Proofs.YtnlfnknkiggejaaDoor
open Go.RowKit

def rencCells (v : Value) (r : Nat) : Array Value := #[v, .int .i64 (r : Nat)]
structure REncAt (w : World) (b : Nat) (v : Value) (e : REnc) : Prop where
  blk : Blk w b 125 (rencCells v e.R)
  own : w.ownsRow 0 5 1 v e.L.length (e.L.map byteV)
  some_ : v.ownBlock ≠ none
  len : e.L.length ≤ 1000000000000

theorem renc_form {w : World} {b : Nat} {v : Value} {e : REnc} (h : REncAt w b v e) : ∃ g cap, v = .slice (some ⟨g, 0, none⟩) e.L.length cap ∧ b ≠ g ∧ g < w.heap.size := by
  rcases h.own.2 with ⟨h1, h2⟩ | ⟨g, cap, cur, h1, _, h2, _⟩
  · exact absurd (by rw [h1]; rfl) h.some_
  · exact ⟨g, cap, h1, Blk.apart h.blk (t' := 5) (cs' := cur) h2 (by decide), (Array.getElem?_eq_some_iff.1 h2).1⟩
theorem renc_apart {w : World} {b : Nat} {v : Value} {e : REnc} (h : REncAt w b v e) : v.ownBlock ≠ some b := by
  obtain ⟨g, cap, rfl, hne, _⟩ := renc_form h
  simp [Value.ownBlock]; omega
theorem renc_n {w : World} {b g n cap : Nat} {e : REnc} (h : REncAt w b (.slice (some ⟨g, 0, none⟩) n cap) e) : n = e.L.length := by
  obtain ⟨g', cap', h1, _⟩ := renc_form h
  injection h1
theorem renc_ne {w : World} {b g n cap : Nat} {e : REnc} (h : REncAt w b (.slice (some ⟨g, 0, none⟩) n cap) e) : b ≠ g := by
  obtain ⟨g', cap', h1, h2, _⟩ := renc_form h
  injection h1 with h1
  injection h1 with h1
  injection h1 with h1
  omega
theorem renc_own {w : World} {b g n cap : Nat} {e : REnc} (h : REncAt w b (.slice (some ⟨g, 0, none⟩) n cap) e) : w.ownsRow 0 5 1 (.slice (some ⟨g, 0, none⟩) n cap) n (e.L.map byteV) := by
  have := h.own
  rw [← renc_n h] at this
  exact this
theorem renc_stored {w : World} {b g n cap r : Nat} {m t : List UInt8} {x : UInt8} (h : REncAt w b (.slice (some ⟨g, 0, none⟩) n cap) ⟨m ++ [x] ++ t, r⟩) (y : UInt8) (j : Nat) (hj : j = m.length) :
    REncAt (w.setCell ⟨g, j, none⟩ (.int .u8 (y.toNat : Nat))) b (.slice (some ⟨g, 0, none⟩) n cap) ⟨m ++ [y] ++ t, r⟩ := by
  subst hj
  have hn := renc_n h
  refine ⟨h.blk.far (renc_ne h) _, ?_, h.some_, ?_⟩
  · have := ((renc_own h).stored m.length (byteV y)).1
    simp only [set_mid] at this
    rw [hn] at this ⊢
    simpa [byteV] using this
  · have := h.len
    simpa using this
theorem renc_R {w : World} {b : Nat} {v : Value} {l : List UInt8} {r : Nat} (h : REncAt w b v ⟨l, r⟩) (r' : Nat) : REncAt (w.setCell ⟨b, 1, none⟩ (.int .i64 (r' : Nat))) b v ⟨l, r'⟩ :=
  ⟨by simpa [rencCells] using h.blk.put 1 (.int .i64 (r' : Nat)), own_far h.own (renc_apart h), h.some_, h.len⟩

theorem addL_snoc (m : List UInt8) (x : UInt8) (v : Nat) : addL (m ++ [x]) v = if v = 0 then m ++ [x] else addL m ((v + x.toNat) / 256) ++ [UInt8.ofNat (v + x.toNat)] := by
  unfold addL
  rw [List.reverse_append]
  simp only [List.reverse_cons, List.reverse_nil, List.nil_append, List.singleton_append, addRev]
  split
  · simp
  · simp
theorem addL_nil (v : Nat) : addL [] v = [] := rfl
theorem addL_zero (m : List UInt8) : addL m 0 = m := by
  unfold addL
  cases h : m.reverse with
  | nil => simp only [addRev]; rw [← h, List.reverse_reverse]
  | cons x l => simp only [addRev, if_true]; rw [← h, List.reverse_reverse]
theorem addRev_length (l : List UInt8) (v : Nat) : (addRev l v).length = l.length := by
  induction l generalizing v with
  | nil => rfl
  | cons x l ih => simp only [addRev]; split <;> simp [ih]
theorem addL_length (l : List UInt8) (v : Nat) : (addL l v).length = l.length := by
  unfold addL; rw [List.length_reverse, addRev_length, List.length_reverse]

def AddRel (w0 : World) (b g n cap r : Nat) (L : List UInt8) (v0 : Nat) (k : Nat) (vv i : Value) (wr : World) : Prop :=
  ∃ (m t : List UInt8) (v : Nat), k = m.length ∧ i = .int .i64 ((m.length : Int) - 1) ∧ vv = .int .i64 (v : Nat) ∧ m.length + t.length = n ∧
    REncAt wr b (.slice (some ⟨g, 0, none⟩) n cap) ⟨m ++ t, r⟩ ∧ addL L v0 = addL m v ++ t ∧ Only (fun k => k = b ∨ k = g) w0 wr ∧ v ≤ 4294967296
def AddPost (w0 : World) (b g n cap r : Nat) (L : List UInt8) (v0 : Nat) (w' : World) : Prop :=
  REncAt w' b (.slice (some ⟨g, 0, none⟩) n cap) ⟨addL L v0, r⟩ ∧ Only (fun k => k = b ∨ k = g) w0 w'

set_option maxRecDepth 100000 in
set_option maxHeartbeats 400000 in
theorem add_any (b g n cap r v0 : Nat) (L : List UInt8) (w : World) (he : REncAt w b (.slice (some ⟨g, 0, none⟩) n cap) ⟨L, r⟩) (hv0 : v0 ≤ 4294967296) :
    Calls Tryd.prog 109 #[.pointer (some ⟨b, 0, none⟩), .int .i64 v0] w fun e w' => e = .returned (.tuple #[]) ∧ AddPost w b g n cap r L v0 w' := by
  have h0 := he.blk.cell 0
  simp [rencCells] at h0
  have hn := renc_n he
  have hlen : n ≤ 1000000000000 := by rw [hn]; exact he.len
  have E := hid (And.intro he hn)
  clear he hn
  go_enter Tryd.func109, Tryd.ntmps109
  go_wp2
  go_loopg [1, 4] n (fun k vv i wr => AddRel w b g n cap r L v0 k vv i wr)
  case atStart => exact ⟨L, [], v0, E.out.2, by rw [← show n = L.length from E.out.2], rfl, by rw [show n = L.length from E.out.2]; simp, by simpa using E.out.1, by simp, Only.refl _ _, hv0⟩
  case round =>
    clear h0
    obtain ⟨m, t, v, rfl, rfl, rfl, hz, he, hc, ho, hv⟩ := hrel
    have hne := renc_ne he
    have h0 := he.blk.cell 0
    simp [rencCells] at h0
    by_cases hl : 0 < m.length
    · obtain ⟨m, x, rfl⟩ := snoc_of m hl
      have hi : (((m ++ [x]).length : Nat) : Int) - 1 = (m.length : Int) := by simp
      rw [hi]
      have hx := (renc_own he).cellAt m.length (by simp at hz; omega)
      have fx := (renc_own he).frozenAt m.length
      simp [byteV] at hx
      have hb : (0 : Int) ≤ (m.length : Int) := by omega
      have hb2 : (m.length : Int) < (n : Int) := by simp at hz; omega
      have X := hid (And.intro he (And.intro hc (And.intro ho hz)))
      have hxlt := x.toNat_lt
      clear he hc ho hi hl hz
      generalize hm : m.length = ml at *
      have M := hid hm
      clear hm
      by_cases h1 : v = 0
      · subst h1
        have hgt : decide ((0 : Int) < ((0 : Nat) : Int)) = false := by simp
        go_wp2
        go_end0
        obtain ⟨he, hc, ho, hz⟩ := X.out
        refine ⟨rfl, ?_, ho⟩
        rw [hc, addL_zero]
        exact he
      · have hgt : decide ((0 : Int) < (v : Int)) = true := by simp; omega
        have V := hid h1
        have hvp : (0 : Int) < (v : Int) := by omega
        have q1 : IntKind.u8.wrap ((v : Int) + (x.toNat : Int)) = ((UInt8.ofNat (v + x.toNat)).toNat : Int) := by
          have := wu8 (v + x.toNat)
          rw [show ((v + x.toNat : Nat) : Int) = (v : Int) + (x.toNat : Int) from by omega] at this
          rw [this]
          simp
        generalize hq : UInt8.ofNat (v + x.toNat) = q at *
        generalize hxn : x.toNat = xn at *
        have Q := hid (And.intro hq hxn)
        clear hq hxn h1
        go_wp2
        obtain ⟨he, hc, ho, hz⟩ := X.out
        have hml := M.out
        go_roundg ml
        case measure => simp; omega
        case rel =>
          refine ⟨m, q :: t, (v + xn) / 256, hml.symm, by rw [hml], by congr 1, by simp at hz ⊢; omega, ?_, ?_, ho.setCell (fun _ => .inr rfl) _, by omega⟩
          · have := renc_stored he q ml hml.symm
            simpa using this
          · rw [hc, addL_snoc, if_neg V.out, Q.out.2, Q.out.1]
            simp
    · have hm0 : m = [] := List.eq_nil_of_length_eq_zero (by omega)
      subst hm0
      have X := hid (And.intro he (And.intro hc (And.intro ho hz)))
      clear he hc ho hz hl
      go_wp2
      go_end0
      obtain ⟨he, hc, ho, hz⟩ := X.out
      refine ⟨rfl, ?_, ho⟩
      rw [hc, addL_nil]
      exact he

def RMoved (w : World) (b : Nat) (v : Value) (e : REnc) (w' : World) : Prop := ∃ v', REncAt w' b v' e ∧ Only (Fp b v) w w' ∧ Fresh w v v'
def RHalf (w0 : World) (b : Nat) (v : Value) (e : REnc) (W : World) : Prop := REncAt W b v e ∧ Only (Fp b v) w0 W
theorem add_all (b : Nat) (v0 : Nat) (x : Int) (hx : x = (v0 : Nat)) (v : Value) (e : REnc) (w : World) (he : REncAt w b v e) (hv0 : v0 ≤ 4294967296) :
    Calls Tryd.prog 109 #[.pointer (some ⟨b, 0, none⟩), .int .i64 x] w fun y w' => y = .returned (.tuple #[]) ∧ RHalf w b v ⟨addL e.L v0, e.R⟩ w' := by
  subst hx
  obtain ⟨g, cap, rfl, _, _⟩ := renc_form he
  obtain ⟨l, r⟩ := e
  refine (add_any b g _ cap r v0 l w he hv0).mono ?_
  rintro y w' ⟨h1, h2, h3⟩
  refine ⟨h1, h2, h3.mono fun k _ hk => ?_⟩
  rcases hk with hk | hk
  · exact .inl hk
  · exact .inr (by rw [hk]; rfl)

def RLoop (w0 : World) (b : Nat) (v : Value) (fin : REnc) (k : Nat) (wr : World) : Prop :=
  ∃ v' l r, REncAt wr b v' ⟨l, r⟩ ∧ Only (Fp b v) w0 wr ∧ Fresh w0 v v' ∧ REnc.norm k ⟨l, r⟩ = fin ∧ lowR k ≤ r ∧ r ≤ 4294967295 ∧ l.length + k ≤ 1000000020

set_option maxRecDepth 100000 in
set_option maxHeartbeats 400000 in
theorem renc_narrow (b x : Nat) (v : Value) (u : Bool) (l : List UInt8) (r : Nat) (w : World) (he : REncAt w b v ⟨l, r⟩) (hx1 : 1 ≤ x) (hx2 : x < r) (hr : r ≤ 4294967295) (hl : l.length ≤ 1000000004) :
    Calls Tryd.prog 101 #[.pointer (some ⟨b, 0, none⟩), .int .i64 x, .bool u] w fun y w' => y = .returned (.tuple #[]) ∧ RMoved w b v (REnc.narrow ⟨l, r⟩ x u) w' := by
  have h1 := he.blk.cell 1
  have f1 := he.blk.frozen 1
  simp [rencCells] at h1
  have E := hid he
  clear he
  go_enter Tryd.func101, Tryd.ntmps101
  go_upto_if 6 with fail
  go_cut [] (fun W => RHalf w b v (REnc.part ⟨l, r⟩ x u) W)
  case first =>
    cases u with
    | false =>
      go_wp2_with fail
      go_meet
      exact ⟨by simpa [REnc.part] using renc_R E.out x, (Only.refl _ w).put (.inl rfl) 1 _⟩
    | true =>
      clear h1 f1
      go_wp2_with fail
      refine (add_all b x _ rfl v ⟨l, r⟩ _ E.out (by omega)).mono ?_
      rintro y w' ⟨rfl, hp, ho⟩
      have h1 := hp.blk.cell 1
      have f1 := hp.blk.frozen 1
      simp [rencCells] at h1
      have e2 : ((r : Int) - (x : Int)) = ((r - x : Nat) : Int) := by omega
      have A := hid e2
      have G := hid (And.intro hp ho)
      clear hp ho e2
      go_wp2_with fail
      go_meet
      rw [A.out]
      exact ⟨by simpa [REnc.part] using renc_R G.out.1 (r - x), G.out.2.put (.inl rfl) 1 _⟩
  case rest =>
    clear h1 f1
    have hp : ∃ o r', REnc.part ⟨l, r⟩ x u = ⟨o, r'⟩ ∧ 1 ≤ r' ∧ r' ≤ 4294967295 ∧ o.length = l.length := by
      cases u with
      | false => exact ⟨l, x, by simp [REnc.part], by omega, by omega, rfl⟩
      | true => exact ⟨addL l x, r - x, by simp [REnc.part], by omega, by omega, addL_length _ _⟩
    have C := hid (And.intro hcut hp)
    clear hcut hp
    go_wp2_with fail
    go_loopg [] 3 (fun k wr => RLoop w b v (REnc.narrow ⟨l, r⟩ x u) k wr)
    case atStart =>
      obtain ⟨⟨he, ho⟩, o, r', e, h1, h2, h3⟩ := C.out
      rw [e] at he
      refine ⟨v, o, r', he, ho, fun k hk => .inl hk, ?_, h1, h2, by omega⟩
      unfold REnc.narrow
      rw [e]
    case round =>
      clear C E
      obtain ⟨v', l, r, he, ho, hf, hn, hr1, hr2, hol⟩ := hrel
      have h0 := he.blk.cell 0
      have h1 := he.blk.cell 1
      have f0 := he.blk.frozen 0
      have f1 := he.blk.frozen 1
      simp [rencCells] at h0 h1
      have hap := renc_apart he
      have hown := he.own
      have hlt := he.blk.lt
      have hsome := he.some_
      simp only at hown
      have H := hid (And.intro he (And.intro ho (And.intro hf hn)))
      have O := hid (And.intro hap (And.intro hown hsome))
      clear he ho hf hn hap hown hsome
      by_cases hlt' : r < 16777216
      · have B := hid (And.intro hr1 hlt')
        have hlt'' : decide ((r : Int) < 16777216) = true := by simp; omega
        have ws : IntKind.i64.wrap ((r : Int) * 256) = (r : Int) * 256 := IntWalk.i64_in _ (by omega)
        clear hr1 hlt'
        obtain ⟨i0, hi0, hz0, hz1, hz2⟩ := info_parts info_u8
        go_wp2_with
          (first
            | (at_builtin
               refine wpList_append_form _ rfl _ _ _ rfl 0 5 i0 (.int .u8 0) 1 1 Tryd.underlying44 hi0 hz0 hz1 hz2 rfl (by omega) v' l.length (l.map byteV) rfl (O.out.2.1.alloc _) (.slice (some ⟨wr.heap.size, 0, none⟩) 1 1) 1 ([0].map byteV) rfl (from_block (Blk.new wr 5 #[.int .u8 0]) rfl) (one_bytes _) (.inl O.out.2.2) (by unfold maxLen; omega) (by omega) (by simp) (l.length + 1) ((l ++ [0]).map byteV) rfl (by simp) ?_
               intro gg cap w1 hown1 hgrow hat hlt1
               have k0 := (hgrow.cell_far ⟨b, 0, none⟩ (by simp; omega) (Ne.symm O.out.1)).trans ((World.cell?_alloc_lt _ _ _ hlt).trans h0)
               have g0 := (hgrow.frozen_far ⟨b, 0, none⟩ (by simp; omega) (Ne.symm O.out.1)).trans ((World.frozen?_alloc_old _ _ _ (Nat.ne_of_lt hlt)).trans f0)
               have k1 := (hgrow.cell_far ⟨b, 1, none⟩ (by simp; omega) (Ne.symm O.out.1)).trans ((World.cell?_alloc_lt _ _ _ hlt).trans h1)
               have g1 := (hgrow.frozen_far ⟨b, 1, none⟩ (by simp; omega) (Ne.symm O.out.1)).trans ((World.frozen?_alloc_old _ _ _ (Nat.ne_of_lt hlt)).trans f1)
               have GW := hid (And.intro hown1 (And.intro hgrow hat))
               clear hown1 hgrow hat hlt1))
        obtain ⟨he, ho, hf, hn⟩ := H.out
        obtain ⟨hown1, hgrow, hat⟩ := GW.out
        obtain ⟨k, rfl⟩ : ∃ k, gk = k + 1 := by
          cases gk with
          | zero => exact absurd B.out (by simp only [lowR]; omega)
          | succ k => exact ⟨k, rfl⟩
        have hB1 : Blk w1 b 125 (rencCells v' r) := (hgrow.block b (by simp; omega) (Ne.symm O.out.1)).trans (he.blk.alloc _)
        have hgb : gg ≠ b := by
          intro e
          subst e
          rcases hat with h | h
          · exact O.out.1 h
          · simp at h; omega
        go_roundg k
        case measure => omega
        case rel =>
          refine ⟨.slice (some ⟨gg, 0, none⟩) (l.length + 1) cap, l ++ [0], r * 256, ⟨?_, ?_, by simp [Value.ownBlock], by simp; omega⟩, ?_, ?_, ?_, lowR_next B.out.1, by have := B.out; omega, by simp; omega⟩
          · have := (hB1.put 0 (.slice (some ⟨gg, 0, none⟩) (l.length + 1) cap)).put 1 (.int .i64 (r * 256 : Nat))
            simpa [rencCells] using this
          · have := own_far (b := b) (i := 1) (u := .int .i64 ((r : Int) * 256)) (own_far (b := b) (i := 0) (u := .slice (some ⟨gg, 0, none⟩) (l.length + 1) cap) hown1 (by simpa [Value.ownBlock] using hgb)) (by simpa [Value.ownBlock] using hgb)
            simpa [byteV] using this
          · refine Only.put (Only.put ?_ (.inl rfl) 0 _) (.inl rfl) 1 _
            refine ho.then (S' := Fp b v') ((((Only.refl _ wr).alloc _)).grown hgrow (fun k hk _ => .inr hk)) (fun i hi hs => ?_)
            rcases hs with hs | hs
            · exact .inl hs
            · rcases hf i hs with h | h
              · exact .inr h
              · omega
          · intro i hi
            have hi' : gg = i := by simpa [Value.ownBlock] using hi
            subst hi'
            rcases hat with h | h
            · exact hf _ h
            · have := ho.size
              simp at h
              exact .inr (by omega)
          · rw [← hn]
            simp [REnc.norm, B.out.2, REnc.step]
      · have hge : decide ((r : Int) < 16777216) = false := by simp; omega
        have B := hid hlt'
        clear hlt' hr1
        go_wp2
        go_end0
        obtain ⟨he, ho, hf, hn⟩ := H.out
        refine ⟨rfl, v', ?_, ho, hf⟩
        rw [← hn]
        cases gk with
        | zero => exact he
        | succ k => rw [REnc.norm, if_neg B.out]; exact he
end Go.Proofs.YtnlfnknkiggejaaDoor
