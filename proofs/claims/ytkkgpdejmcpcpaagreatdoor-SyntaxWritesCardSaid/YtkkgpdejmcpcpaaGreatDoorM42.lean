/- Parts: XSBackP, XSBackQ. -/
import Derived.Test.YtkkgpdejmcpcpaaGreatDoorM41
import Derived.Test.YtkkgpdejmcpcpaaGreatDoorM38
import Derived.Test.YtkkgpdejmcpcpaaGreatDoorM40
/- SyntaxBack: what a square of the argument is to a writer; the row of those done. -/
namespace Go.Proofs.YtkkgpdejmcpcpaaGreatDoor
open Go.RowKit

theorem noff_argS {w W : World} {x : Value} {l : List Int} {F : Nat → Prop} (hn : Nums w x l) (h0 : l ≠ []) (hb : Below w.heap.size w W) (hF : ∀ k, F k → w.heap.size ≤ k) : NOff x l W F := by
  have hn2 := hn.below hb
  obtain ⟨A, c, rfl, _, h3⟩ := hn
  obtain ⟨b, off, rfl, hlt, _⟩ := h3 h0
  have e : ∀ k, (Value.slice (some ⟨b, off, none⟩) l.length c).ownBlock = some k → k = b := fun k hk => by
    have : b = k := by simpa [Value.ownBlock] using hk
    exact this.symm
  exact ⟨hn2, fun k hk hFk => by have := e k hk; have := hF k hFk; omega, fun k hk => by have := e k hk; have := hb.size; omega⟩
section
variable {w W : World} {s : SqS} {lv v0 v1 v2 v3 : Value} {m0 m1 m2 m3 : Int} {l0 l1 l2 l3 : List Int} {F : Nat → Prop} {key : Bool}
theorem SqLies.arg (h : SqLies w s lv v0 v1 v2 v3 m0 m1 m2 m3 l0 l1 l2 l3) : SqArg w (sqV s.kind s.mode m0 m1 m2 m3 s.x s.y lv v0 v1 v2 v3) s m0 m1 m2 m3 lv v0 v1 v2 v3 l0 l1 l2 l3 :=
  ⟨⟨rfl, h.em⟩, h.es, h.nl.1, h.n0.1, h.n1.1, h.n2.1, h.n3.1⟩
theorem SqLies.four (h : SqLies w s lv v0 v1 v2 v3 m0 m1 m2 m3 l0 l1 l2 l3) : Four s := ⟨by rw [h.em]; rfl, by rw [h.es]; rfl⟩
/-- The lists that a writer takes lie off its blocks. -/
theorem SqLies.off (h : SqLies w s lv v0 v1 v2 v3 m0 m1 m2 m3 l0 l1 l2 l3) (hr : RightS key s) (hb : Below w.heap.size w W) (hF : ∀ k, F k → w.heap.size ≤ k) :
    (s.kind = 3 → ∀ p ∈ [(v0, l0), (v1, l1), (v2, l2), (v3, l3)], NOff p.1 p.2 W F) ∧ (s.kind = 1 ∨ s.kind = 2 → NOff lv s.large W F) := by
  refine ⟨fun e p hp => ?_, fun e => noff_argS h.nl.1 (fun k => ?_) hb hF⟩
  · have h3 := (hr.three e).2
    rw [h.es] at h3
    have hne : ∀ l ∈ [l0, l1, l2, l3], l ≠ [] := fun l hl k => by have := (h3 l hl).1; rw [k] at this; exact absurd this (by decide)
    simp only [List.mem_cons, List.not_mem_nil, or_false] at hp
    rcases hp with rfl | rfl | rfl | rfl
    · exact noff_argS h.n0.1 (hne l0 (by simp)) hb hF
    · exact noff_argS h.n1.1 (hne l1 (by simp)) hb hF
    · exact noff_argS h.n2.1 (hne l2 (by simp)) hb hF
    · exact noff_argS h.n3.1 (hne l3 (by simp)) hb hF
  · have := (hr.large e).1
    rw [k] at this
    exact absurd this (by decide)
end
def keyAt (ks : List Bool) (i : Nat) : Bool := decide (i < ks.length) && ks.getD i false
/-- The squares done, and where they are. -/
def DoneSq (l : List SqS) (ks : List Bool) (is : List Nat) (D : List (Bool × SqS)) : Prop :=
  is.length = D.length ∧ ∀ (k : Nat) (key : Bool) (s : SqS), D[k]? = some (key, s) → RightS key s ∧ ∃ i, is[k]? = some i ∧ l[i]? = some s ∧ key = keyAt ks i
theorem DoneSq.nil (l : List SqS) (ks : List Bool) : DoneSq l ks [] [] := ⟨rfl, fun k key s h => by simp at h⟩
theorem DoneSq.snoc {l : List SqS} {ks : List Bool} {is : List Nat} {D : List (Bool × SqS)} (h : DoneSq l ks is D) {i : Nat} {s : SqS} (hi : l[i]? = some s) (hr : RightS (keyAt ks i) s) : DoneSq l ks (is ++ [i]) (D ++ [(keyAt ks i, s)]) := by
  refine ⟨by simp [h.1], fun k key q hk => ?_⟩
  by_cases e : k < D.length
  · rw [List.getElem?_append_left e] at hk
    obtain ⟨h1, y, h2, h3⟩ := h.2 k key q hk
    exact ⟨h1, y, by rw [List.getElem?_append_left (by rw [h.1]; exact e)]; exact h2, h3⟩
  · rw [List.getElem?_append_right (by omega)] at hk
    have hk0 : k - D.length = 0 := by
      have := (List.getElem?_eq_some_iff.1 hk).1
      simp at this
      omega
    rw [hk0] at hk
    have hq : (keyAt ks i, s) = (key, q) := by simpa using hk
    injection hq with h1 h2
    subst h1 h2
    refine ⟨hr, i, ?_, hi, rfl⟩
    rw [List.getElem?_append_right (by rw [h.1]; omega), h.1, hk0]
    rfl
end Go.Proofs.YtkkgpdejmcpcpaaGreatDoor

/- SyntaxBack: what a coder tells of a square that may be coded; its parts, and Same of both. -/
namespace Go.Proofs.YtkkgpdejmcpcpaaGreatDoor
open Go.RowKit

theorem RightS.kinds {key : Bool} {s : SqS} (h : RightS key s) : s.kind = 0 ∨ s.kind = 1 ∨ s.kind = 2 ∨ s.kind = 3 := by have := h.k0; have := h.k3; omega
theorem parts_len {key : Bool} {s : SqS} (h : RightS key s) : (partsS s).large.length ≤ 64 ∧ ∀ l ∈ (partsS s).small, l.length ≤ 16 := by
  have hs4 : ∀ l ∈ ([[], [], [], []] : List (List Int)), l.length ≤ 16 := by decide
  unfold partsS
  rcases h.kinds with e | e | e | e
  · rw [e]
    exact ⟨by show (0 : Nat) ≤ 64; omega, hs4⟩
  · rw [e]
    exact ⟨by show s.large.length ≤ 64; rw [(h.large (.inl e)).1]; omega, hs4⟩
  · rw [e]
    exact ⟨by show s.large.length ≤ 64; rw [(h.large (.inr e)).1]; omega, hs4⟩
  · rw [e]
    exact ⟨by show (0 : Nat) ≤ 64; omega, fun l hl => by rw [((h.three e).2 l hl).1]; omega⟩
theorem Own1.nums {w W : World} {v : Value} {l : List Int} (h : Own1 w W v l) : Nums W v l := by
  obtain ⟨g, cap, _, _, h3⟩ := h
  exact h3.n
/-- A square told. -/
def Told20 (W : World) (q : SqS) (p0 p1 p2 p3 : Int) (v0 v1 v2 v3 v4 : Value) (j0 j1 j2 j3 : List Int) : Prop :=
  q.modes = [p0, p1, p2, p3] ∧ q.small = [j0, j1, j2, j3] ∧ ∀ p ∈ [(v0, q.large), (v1, j0), (v2, j1), (v3, j2), (v4, j3)], Nums W p.1 p.2
theorem Told20.below {W W' : World} {q : SqS} {p0 p1 p2 p3 : Int} {v0 v1 v2 v3 v4 : Value} {j0 j1 j2 j3 : List Int} (h : Told20 W q p0 p1 p2 p3 v0 v1 v2 v3 v4 j0 j1 j2 j3) (hb : Below W.heap.size W W') : Told20 W' q p0 p1 p2 p3 v0 v1 v2 v3 v4 j0 j1 j2 j3 :=
  ⟨h.1, h.2.1, fun p hp => (h.2.2 p hp).below hb⟩
/-- The answer of a coder that tells a square. -/
def TellE (e : Ending) (W : World) (q : SqS) : Prop :=
  ∃ (B0 B1 B2 B3 B4 : Option Addr) (k0 k1 k2 k3 k4 : Nat) (p0 p1 p2 p3 : Int) (j0 j1 j2 j3 : List Int), e = .returned (.tuple #[sqV q.kind q.mode p0 p1 p2 p3 q.x q.y (.slice B0 k0 k0) (.slice B1 k1 k1) (.slice B2 k2 k2) (.slice B3 k3 k3) (.slice B4 k4 k4), .nilIface]) ∧ Told20 W q p0 p1 p2 p3 (.slice B0 k0 k0) (.slice B1 k1 k1) (.slice B2 k2 k2) (.slice B3 k3 k3) (.slice B4 k4 k4) j0 j1 j2 j3
theorem tell_of {w0 W : World} {F : Nat → Prop} {v : Value} {q : SqS} (h : SqVal w0 W F v q) : TellE (.returned (.tuple #[v, .nilIface])) W q := by
  obtain ⟨p0, p1, p2, p3, lv', v0', v1', v2', v3', j0, j1, j2, j3, rfl, hqm, hqs, z0, z1, z2, z3, z4⟩ := h
  obtain ⟨B0, k0', rfl⟩ := lst_form z0
  obtain ⟨B1, k1', rfl⟩ := lst_form z1
  obtain ⟨B2, k2', rfl⟩ := lst_form z2
  obtain ⟨B3, k3', rfl⟩ := lst_form z3
  obtain ⟨B4, k4', rfl⟩ := lst_form z4
  refine ⟨B0, B1, B2, B3, B4, k0', k1', k2', k3', k4', p0, p1, p2, p3, j0, j1, j2, j3, rfl, hqm, hqs, fun p hp => ?_⟩
  simp only [List.mem_cons, List.not_mem_nil, or_false] at hp
  rcases hp with rfl | rfl | rfl | rfl | rfl
  · exact z0.nums
  · exact z1.nums
  · exact z2.nums
  · exact z3.nums
  · exact z4.nums
/-- A writer takes a square that may be coded. -/
theorem wdone (b1 : Nat) {w0 W : World} {v : Value} {n : Nat} {xs : List Value} {D : List (Bool × SqS)} {F : Nat → Prop} {m : Nat} {key : Bool} {s : SqS} {lv v0 v1 v2 v3 : Value} {m0 m1 m2 m3 : Int} {l0 l1 l2 l3 : List Int}
    (hs : SqLies w0 s lv v0 v1 v2 v3 m0 m1 m2 m3 l0 l1 l2 l3) (hv : askNo key s = 0) (hW : DoneAt (AtWr b1) 3 v n xs w0 (sqW D) W F) (hok : (sqW D).Ok m) (hm : m + 100000 ≤ 1000000000) :
    Calls Tryz.prog 10 #[.iface 25 (.pointer (some ⟨b1, 0, none⟩)), .bool key, sqV s.kind s.mode m0 m1 m2 m3 s.x s.y lv v0 v1 v2 v3] W fun e w' => ∃ F', DoneAt (AtWr b1) 3 v n xs w0 (sqW (D ++ [(key, s)])) w' F' ∧ TellE e w' (partsS s) := by
  have hr := right_of hv
  have ho := hs.off hr hW.c.bel hW.c.lo
  refine (wcode20 b1 key _ s m0 m1 m2 m3 lv v0 v1 v2 v3 l0 l1 l2 l3 (sqW D) W F m (hs.below hW.c.bel).arg hW.c.a hok hm hv ho.1 ho.2).mono ?_
  rintro e w' ⟨F', hcw, hans⟩
  have es : (wrM.run (codeA key s) (sqW D)).2 = sqW (D ++ [(key, s)]) := by rw [sqW_snoc, fix_run echo_wr hr]
  rw [es] at hcw
  rw [echo_told echo_wr hr hs.four (sqW D)] at hans
  obtain ⟨v', rfl, hv'⟩ := hans
  exact ⟨F', hW.code hcw, tell_of hv'⟩
theorem wdone_ok {D : List (Bool × SqS)} {m : Nat} {key : Bool} {s : SqS} (hv : askNo key s = 0) (h4 : Four s) (b1 : Nat) (hok : (sqW D).Ok m) : ∃ m', m' ≤ m + 9000 ∧ (sqW (D ++ [(key, s)])).Ok m' := by
  obtain ⟨m', h1, h2⟩ := ok_code20 (wr_coder b1) key s (by rw [h4.1]; omega) (sqW D) m hok
  refine ⟨m', h1, ?_⟩
  rw [sqW_snoc, fix_run echo_wr (right_of hv)]
  exact h2
/-- A reader tells the next square, whatever it is handed. -/
theorem rdone (db : Nat) {w0 W : World} {v : Value} {n : Nat} {xs : List Value} {D : List (Bool × SqS)} {k : Nat} {F : Nat → Prop} {m : Nat} {key : Bool} {s j : SqS} {t : Rd} {lv v0 v1 v2 v3 : Value} {m0 m1 m2 m3 : Int} {l0 l1 l2 l3 : List Int}
    (hz : D[k]? = some (key, s)) (hr : RightS key s) (h4 : Four s) (htr : Tr (sqW D).e (sqW (D.take k)) t) (hn : SqArg W (sqV j.kind j.mode m0 m1 m2 m3 j.x j.y lv v0 v1 v2 v3) j m0 m1 m2 m3 lv v0 v1 v2 v3 l0 l1 l2 l3) (hW : DoneAt (AtRd db) 3 v n xs w0 t W F) (hok : t.Ok m) (hm : m + 100000 ≤ 1000000000) :
    Calls Tryz.prog 10 #[.iface 61 (.pointer (some ⟨db, 0, none⟩)), .bool key, sqV j.kind j.mode m0 m1 m2 m3 j.x j.y lv v0 v1 v2 v3] W fun e w' => ∃ F' t' m', DoneAt (AtRd db) 3 v n xs w0 t' w' F' ∧ Tr (sqW D).e (sqW (D.take (k + 1))) t' ∧ (m' ≤ m + 9000 ∧ t'.Ok m') ∧ TellE e w' (partsS s) := by
  refine (rcode20 db key _ j m0 m1 m2 m3 lv v0 v1 v2 v3 l0 l1 l2 l3 t W F m hn hW.c.a hok hm).mono ?_
  rintro e w' ⟨F', hcw, hans⟩
  obtain ⟨hb1, hb2⟩ := back_S D k key s hz hr h4 t htr
  obtain ⟨m', h1, h2⟩ := ok_code20 (rd_coder db) key zeroS (by decide) t m hok
  rw [hb1] at hans
  obtain ⟨v', rfl, hv'⟩ := hans
  exact ⟨F', _, m', hW.code hcw, hb2, ⟨h1, h2⟩, tell_of hv'⟩
end Go.Proofs.YtkkgpdejmcpcpaaGreatDoor

