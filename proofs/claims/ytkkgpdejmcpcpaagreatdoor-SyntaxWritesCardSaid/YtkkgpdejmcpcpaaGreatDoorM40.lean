/- Parts: XOpenEls, XOpenLst, XKinds20, XFew20, XFew, XCopied20. -/
import Derived.Test.YtkkgpdejmcpcpaaGreatDoorM39
import Derived.SizedLaws
import Derived.Test.YtkkgpdejmcpcpaaGreatDoorM38
import Derived.Lib.MinMax
import Derived.Test.YtkkgpdejmcpcpaaGreatDoorM22
import Derived.Test.YtkkgpdejmcpcpaaGreatDoorM18
/- Arguments opened: a slice whose elements read as something; ints. -/
namespace Go.Proofs.YtkkgpdejmcpcpaaGreatDoor
open Go.ChangeShapes Go.WideShapes Go.ChangeAt Go.RowKit Go.Deep

/-- The slice x has these elements, of s cells each. -/
def Els {α : Type} (w : World) (s : Nat) (R : α → List Value → Prop) (x : Value) (l : List α) : Prop :=
  ∃ A c, x = .slice A l.length c ∧ l.length ≤ c ∧ (l ≠ [] → ∃ b off, A = some ⟨b, off, none⟩ ∧ b < w.heap.size ∧
    ∀ (i : Nat) (a : α), l[i]? = some a → ∃ cs, cs.length = s ∧ R a cs ∧ ∀ (j : Nat) (u : Value), cs[j]? = some u → w.cell? ⟨b, off + i * s + j, none⟩ = some u)
theorem Els.below {α : Type} {w w' : World} {s : Nat} {R : α → List Value → Prop} {x : Value} {l : List α} (h : Els w s R x l) (hb : Below w.heap.size w w') : Els w' s R x l := by
  obtain ⟨A, c, h1, h2, h3⟩ := h
  refine ⟨A, c, h1, h2, fun h0 => ?_⟩
  obtain ⟨b, off, h4, h5, h6⟩ := h3 h0
  refine ⟨b, off, h4, Nat.lt_of_lt_of_le h5 hb.size, fun i a ha => ?_⟩
  obtain ⟨cs, k1, k2, k3⟩ := h6 i a ha
  exact ⟨cs, k1, k2, fun j u hu => (World.cell?_of_block (w := w) (a := ⟨b, off + i * s + j, none⟩) (hb.block b h5)).trans (k3 j u hu)⟩
theorem Els.mono {α : Type} {w : World} {s : Nat} {R R' : α → List Value → Prop} {x : Value} {l : List α} (h : Els w s R x l) (hR : ∀ a cs, R a cs → R' a cs) : Els w s R' x l := by
  obtain ⟨A, c, h1, h2, h3⟩ := h
  refine ⟨A, c, h1, h2, fun h0 => ?_⟩
  obtain ⟨b, off, h4, h5, h6⟩ := h3 h0
  refine ⟨b, off, h4, h5, fun i a ha => ?_⟩
  obtain ⟨cs, k1, k2, k3⟩ := h6 i a ha
  exact ⟨cs, k1, hR _ _ k2, k3⟩
theorem Els.form {α : Type} {w : World} {s : Nat} {R : α → List Value → Prop} {x : Value} {l : List α} (h : Els w s R x l) : ∃ A c, x = .slice A l.length c ∧ l.length ≤ c := by
  obtain ⟨A, c, h1, h2, _⟩ := h
  exact ⟨A, c, h1, h2⟩
theorem Els.at_ {α : Type} {w : World} {s : Nat} {R : α → List Value → Prop} {A : Option Addr} {n c : Nat} {l : List α} (h : Els w s R (.slice A n c) l) {i : Nat} {a : α} (ha : l[i]? = some a) :
    ∃ b off cs, A = some ⟨b, off, none⟩ ∧ b < w.heap.size ∧ cs.length = s ∧ R a cs ∧ ∀ (j : Nat) (u : Value), cs[j]? = some u → w.cell? ⟨b, off + i * s + j, none⟩ = some u := by
  obtain ⟨A', c', e, _, h3⟩ := h
  injection e with e1 e2 e3
  subst e1
  obtain ⟨b, off, e4, h4, h5⟩ := h3 (by rintro rfl; simp at ha)
  obtain ⟨cs, k1, k2, k3⟩ := h5 i a ha
  exact ⟨b, off, cs, e4, h4, k1, k2, k3⟩
section
variable {H : Type} {enc : TypeId × Value → H} {w : World} {base : Nat} {spare : Nat → Bool} {held : Bool}
theorem open_gen {α : Type} [Inhabited α] {t e : TypeId} {s : Nat} (ht : Tryz.prog.underlying t = some (.slice e)) (hce : Tryz.prog.cellsOf e = s) (hs : 0 < s) (R : α → List Value → Prop)
    (hR : ∀ fuel cs x, DataW.trod enc Tryz.prog w base spare held fuel e cs = some x → cs.length = s → ∃ a, R a cs)
    {A : Option Addr} {len cap : Nat} {d : DataW H} {p : List MemPlace} (h : DataW.Trod enc Tryz.prog w base spare held t (.slice A len cap) d p) :
    ∃ l : List α, l.length = len ∧ Els w s R (.slice A len cap) l ∧ l.length ≤ maxLen := by
  obtain ⟨fuel, hf⟩ := h
  rcases open_slice ht hf with ⟨hcs, _⟩ | ⟨a, l, c, m, n, D, Pl, hcs, hb, hl, hm, hmm, _, hi⟩
  · simp [Value.cells] at hcs
    obtain ⟨rfl, rfl, rfl⟩ := hcs
    exact ⟨[], rfl, ⟨none, 0, rfl, Nat.le_refl _, fun h => absurd rfl h⟩, Nat.zero_le _⟩
  · simp [Value.cells] at hcs
    obtain ⟨rfl, rfl, rfl⟩ := hcs
    have hlm : len ≤ m := by rw [hmm]; split <;> omega
    have hone : ∀ i, i < len → ∃ o : α × List Value, o.2.length = s ∧ R o.1 o.2 ∧ ∀ (j : Nat) (u : Value), o.2[j]? = some u → w.cell? ((a.add (i * s)).add j) = some u := by
      intro i hlt
      obtain ⟨cs', hc, ht⟩ := hi i (by omega)
      rw [hce] at hc
      obtain ⟨_, hcl, hat⟩ := World.cells?_some hc
      obtain ⟨o, ho⟩ := hR _ _ _ ht hcl
      refine ⟨(o, cs'), hcl, ho, fun j u hu => ?_⟩
      have hj : j < s := by rw [← hcl]; exact (List.getElem?_eq_some_iff.1 hu).1
      rw [hat j hj]
      exact hu
    let f : Nat → α := fun i => if h : i < len then (hone i h).choose.1 else default
    have hfl : ((List.range len).map f).length = len := by simp
    refine ⟨(List.range len).map f, hfl, ⟨some a, cap, by rw [hfl], by rw [hfl]; omega, fun hne => ?_⟩, by rw [hfl]; omega⟩
    have hlen : 0 < len := by
      rcases Nat.eq_zero_or_pos len with h0 | h0
      · subst h0; exact absurd rfl hne
      · exact h0
    have hzero : ∀ i (h : i < len), ∃ u, w.cell? ((a.add (i * s)).add 0) = some u := by
      intro i h
      obtain ⟨o, h1, h2, h3⟩ := hone i h
      exact ⟨o.2[0], h3 0 _ (List.getElem?_eq_getElem (by omega))⟩
    obtain ⟨b, off, spot⟩ := a
    have hspot : spot = none := by
      obtain ⟨u, this⟩ := hzero 0 hlen
      simp [Addr.add] at this
      exact World.cell?_spot this
    subst hspot
    have had : ∀ b o i, (⟨b, o, none⟩ : Addr).add i = ⟨b, o + i, none⟩ := by intro b o i; unfold Addr.add; split <;> simp_all
    refine ⟨b, off, rfl, ?_, fun i o ho => ?_⟩
    · obtain ⟨u, this⟩ := hzero 0 hlen
      have h2 := World.block_lt_of_cell? _ _ this
      simpa [had] using h2
    · have hi' : i < len := by
        have := (List.getElem?_eq_some_iff.1 ho).1
        simpa using this
      have e : ((List.range len).map f)[i]? = some (hone i hi').choose.1 := by
        simp [f, hi']
      rw [e] at ho
      injection ho with ho
      subst ho
      obtain ⟨h1, h2, h3⟩ := (hone i hi').choose_spec
      refine ⟨(hone i hi').choose.2, h1, h2, fun j u hu => ?_⟩
      have := h3 j u hu
      rw [had, had] at this
      exact this
/-! ### ints -/
def IntR (z : Int) (cs : List Value) : Prop := cs = [.int .i64 z] ∧ (Lit.int .i64 z).wf = true
theorem open_ints2 {A : Option Addr} {len cap : Nat} {d : DataW H} {p : List MemPlace} (h : DataW.Trod enc Tryz.prog w base spare held 33 (.slice A len cap) d p) :
    ∃ l : List Int, l.length = len ∧ Els w 1 IntR (.slice A len cap) l ∧ l.length ≤ maxLen := by
  refine open_gen Tryz.underlying33 (by kernel_rfl) (by omega) IntR (fun fuel cs x hx hl => ?_) h
  obtain ⟨z, e0, _, hw⟩ := DataW.trod_int Tryz.underlying3 hx
  exact ⟨z, e0, hw⟩
end
end Go.Proofs.YtkkgpdejmcpcpaaGreatDoor

/- Arguments opened: bools; slices of ints. -/
namespace Go.Proofs.YtkkgpdejmcpcpaaGreatDoor
open Go.ChangeShapes Go.WideShapes Go.ChangeAt Go.RowKit Go.Deep
section
variable {H : Type} {enc : TypeId × Value → H} {w : World} {base : Nat} {spare : Nat → Bool} {held : Bool}
def BoolR (b : Bool) (cs : List Value) : Prop := cs = [.bool b]
theorem open_bools {A : Option Addr} {len cap : Nat} {d : DataW H} {p : List MemPlace} (h : DataW.Trod enc Tryz.prog w base spare held 23 (.slice A len cap) d p) :
    ∃ l : List Bool, l.length = len ∧ Els w 1 BoolR (.slice A len cap) l ∧ l.length ≤ maxLen := by
  refine open_gen Tryz.underlying23 (by kernel_rfl) (by omega) BoolR (fun fuel cs x hx hl => ?_) h
  obtain ⟨z, e0, _⟩ := DataW.trod_bool Tryz.underlying4 hx
  exact ⟨z, e0⟩
def IntsR (w : World) (zs : List Int) (cs : List Value) : Prop := ∃ v, cs = [v] ∧ Els w 1 IntR v zs ∧ zs.length ≤ maxLen
/-- An argument's bytes are no more than a machine reaches. -/
theorem byt_sized {A : Option Addr} {len cap : Nat} {d : DataW H} {p : List MemPlace} (h : DataW.Trod enc Tryz.prog w base spare held 53 (.slice A len cap) d p) {ts : List TypeId} {ds : List (DataW H)} {j : Nat}
    (hz : (DataW.weightsEach Tryz.prog ts ds).all (· ≤ reachBytes) = true) (ht : ts[j]? = some 53) (hd : ds[j]? = some d) : len ≤ 140737488351232 := by
  obtain ⟨fuel, hf⟩ := h
  rcases open_slice Tryz.underlying53 hf with ⟨hcs, _⟩ | ⟨a, l, c, m, n, D, Pl, hcs, hb, hl, hm, hmm, hx, _⟩
  · simp [Value.cells] at hcs
    obtain ⟨rfl, rfl, rfl⟩ := hcs
    omega
  · simp [Value.cells] at hcs
    obtain ⟨rfl, rfl, rfl⟩ := hcs
    injection hx with hx1 _
    subst hx1
    have h1 := sized_slice hz ht hd Tryz.underlying53
    rw [show Tryz.prog.bytesOf 5 = 1 by kernel_rfl] at h1
    simp only [List.length_map, List.length_range, Nat.mul_one] at h1
    unfold reachBytes at h1
    omega
end
end Go.Proofs.YtkkgpdejmcpcpaaGreatDoor

/- SyntaxKinds: plain; what the walk holds. -/
namespace Go.Proofs.YtkkgpdejmcpcpaaGreatDoor
open Go.RowKit

theorem nums_nilS (W : World) : Nums W nilS [] := ⟨none, 0, rfl, Nat.le_refl _, fun h => absurd rfl h⟩
/-- The parts, as numbers and lists. -/
theorem parts_num (W : World) (s : SqS) (m0 m1 m2 m3 : Int) (lv v0 v1 v2 v3 : Value) (l0 l1 l2 l3 : List Int) (hm : s.modes = [m0, m1, m2, m3]) (hs : s.small = [l0, l1, l2, l3]) (h : ∀ p ∈ [(lv, s.large), (v0, l0), (v1, l1), (v2, l2), (v3, l3)], Nums W p.1 p.2) (hk : s.kind = 0 ∨ s.kind = 1 ∨ s.kind = 2 ∨ s.kind = 3) :
    ∃ n0 n1 n2 n3 lu u0 u1 u2 u3 q0 q1 q2 q3, partsV s.kind s.mode m0 m1 m2 m3 s.x s.y lv v0 v1 v2 v3 = sqV (partsS s).kind (partsS s).mode n0 n1 n2 n3 (partsS s).x (partsS s).y lu u0 u1 u2 u3 ∧ (partsS s).modes = [n0, n1, n2, n3] ∧ (partsS s).small = [q0, q1, q2, q3] ∧ ∀ p ∈ [(lu, (partsS s).large), (u0, q0), (u1, q1), (u2, q2), (u3, q3)], Nums W p.1 p.2 := by
  have hn := nums_nilS W
  have h0 := h (lv, s.large) (by simp)
  have h1 := h (v0, l0) (by simp)
  have h2 := h (v1, l1) (by simp)
  have h3 := h (v2, l2) (by simp)
  have h4 := h (v3, l3) (by simp)
  unfold partsV partsS
  rcases hk with e | e | e | e
  · rw [e]
    refine ⟨0, 0, 0, 0, nilS, nilS, nilS, nilS, nilS, [], [], [], [], rfl, rfl, rfl, fun p hp => ?_⟩
    simp only [List.mem_cons, List.not_mem_nil, or_false] at hp
    rcases hp with rfl | rfl | rfl | rfl | rfl <;> exact hn
  · rw [e]
    refine ⟨0, 0, 0, 0, lv, nilS, nilS, nilS, nilS, [], [], [], [], rfl, rfl, rfl, fun p hp => ?_⟩
    simp only [List.mem_cons, List.not_mem_nil, or_false] at hp
    rcases hp with rfl | rfl | rfl | rfl | rfl
    · exact h0
    all_goals exact hn
  · rw [e]
    refine ⟨0, 0, 0, 0, lv, nilS, nilS, nilS, nilS, [], [], [], [], rfl, rfl, rfl, fun p hp => ?_⟩
    simp only [List.mem_cons, List.not_mem_nil, or_false] at hp
    rcases hp with rfl | rfl | rfl | rfl | rfl
    · exact h0
    all_goals exact hn
  · rw [e]
    refine ⟨m0, m1, m2, m3, nilS, v0, v1, v2, v3, l0, l1, l2, l3, rfl, hm, hs, fun p hp => ?_⟩
    simp only [List.mem_cons, List.not_mem_nil, or_false] at hp
    rcases hp with rfl | rfl | rfl | rfl | rfl
    · exact hn
    · exact h1
    · exact h2
    · exact h3
    · exact h4
theorem ok_code20 {σ : Type} {M : Mach σ} {fB fF : FuncId} {me : Value} {At : World → (Nat → Prop) → σ → Prop} {Ok : σ → Nat → Prop} (H : IsCoder M fB fF me At Ok) (key : Bool) (s : SqS) (h4 : s.modes.length ≤ 4) (st : σ) (lim : Nat) (h : Ok st lim) : ∃ m, m ≤ lim + 9000 ∧ Ok (M.run (codeA key s) st).2 m := by
  obtain ⟨m, h1, h2⟩ := H.okRun (codeA key s) 2853 (ctx_code key s) (most_code key s h4) st lim h
  exact ⟨m, by omega, h2⟩
/-- A list that was told, for another coder whose blocks are older. -/
theorem Lst.noff {w0 W : World} {F G : Nat → Prop} {v : Value} {l : List Int} (h : Lst w0 v l W F) (hG : ∀ k, G k → k < w0.heap.size) : NOff v l W G := by
  rcases h with ⟨rfl, rfl⟩ | ⟨g, rfl, h2⟩
  · exact ⟨nums_nilS W, fun k hk => by simp [Value.ownBlock] at hk, fun k hk => by simp [Value.ownBlock] at hk⟩
  · exact noff_new h2.b rfl rfl (fun e => by have := hG g e; have := h2.lo; omega)
theorem canon_len {key : Bool} {q : SqS} (h : RightS key q) (hp : partsS q = q) : q.large.length ≤ 64 ∧ ∀ l ∈ q.small, l.length ≤ 16 := by
  have hk0 := h.k0
  have hk3 := h.k3
  have hc : q.kind = 0 ∨ q.kind = 1 ∨ q.kind = 2 ∨ q.kind = 3 := by omega
  have hs4 : ∀ l ∈ ([[], [], [], []] : List (List Int)), l.length ≤ 16 := by decide
  rcases hc with e | e | e | e
  · have h1 : q.large = (partsS q).large := by rw [hp]
    have h2 : q.small = (partsS q).small := by rw [hp]
    unfold partsS at h1 h2
    rw [e] at h1 h2
    rw [h1, h2]
    exact ⟨by show (0 : Nat) ≤ 64; omega, hs4⟩
  · have h2 : q.small = (partsS q).small := by rw [hp]
    unfold partsS at h2
    rw [e] at h2
    rw [h2]
    exact ⟨by rw [(h.large (.inl e)).1]; omega, hs4⟩
  · have h2 : q.small = (partsS q).small := by rw [hp]
    unfold partsS at h2
    rw [e] at h2
    rw [h2]
    exact ⟨by rw [(h.large (.inr e)).1]; omega, hs4⟩
  · have h1 : q.large = (partsS q).large := by rw [hp]
    unfold partsS at h1
    rw [e] at h1
    rw [h1]
    exact ⟨by show (0 : Nat) ≤ 64; omega, fun l hl => by rw [((h.three e).2 l hl).1]; omega⟩
/-- Two coders, a square in its block with its lists. -/
structure KQ {σ τ : Type} (w : World) (A1 : World → (Nat → Prop) → σ → Prop) (A2 : World → (Nat → Prop) → τ → Prop) (F G : Nat → Prop) (s : σ) (t : τ) (ob : Nat) (q : SqS) (m0 m1 m2 m3 : Int) (lv v0 v1 v2 v3 : Value) (l0 l1 l2 l3 : List Int) (W : World) : Prop where
  T : TwoAt w.heap.size w A1 A2 F G s t W
  b : SqBlk W ob 36 q.kind q.mode [m0, m1, m2, m3] q.x q.y lv [v0, v1, v2, v3]
  oF : ¬ F ob
  oG : ¬ G ob
  n : ∀ p ∈ [(lv, q.large), (v0, l0), (v1, l1), (v2, l2), (v3, l3)], NOff p.1 p.2 W G
section
variable {σ τ : Type} {M : Mach σ} {N : Mach τ} {f1 f2 f3 f4 : FuncId} {e1 e2 : Value} {A1 : World → (Nat → Prop) → σ → Prop} {A2 : World → (Nat → Prop) → τ → Prop} {O1 : σ → Nat → Prop} {O2 : τ → Nat → Prop}
variable {w W W' : World} {F G G' : Nat → Prop} {s : σ} {t t' : τ} {ob : Nat} {q : SqS} {m0 m1 m2 m3 : Int} {lv v0 v1 v2 v3 : Value} {l0 l1 l2 l3 : List Int}
theorem KQ.below (H1 : IsCoder M f1 f2 e1 A1 O1) (H2 : IsCoder N f3 f4 e2 A2 O2) (h : KQ w A1 A2 F G s t ob q m0 m1 m2 m3 lv v0 v1 v2 v3 l0 l1 l2 l3 W) (hb : Below W.heap.size W W') : KQ w A1 A2 F G s t ob q m0 m1 m2 m3 lv v0 v1 v2 v3 l0 l1 l2 l3 W' :=
  ⟨h.T.below H1 H2 hb, h.b.below hb, h.oF, h.oG, fun p hp => (h.n p hp).below hb⟩
theorem KQ.right (H1 : IsCoder M f1 f2 e1 A1 O1) (h : KQ w A1 A2 F G s t ob q m0 m1 m2 m3 lv v0 v1 v2 v3 l0 l1 l2 l3 W) (c : CW A2 W G t' W' G') : KQ w A1 A2 F G' s t' ob q m0 m1 m2 m3 lv v0 v1 v2 v3 l0 l1 l2 l3 W' :=
  ⟨h.T.rightC H1 c, h.b.keep c.o h.oG, h.oF, fun e => by
    rcases c.f ob e with e | e
    · exact h.oG e
    · have := h.b.lt; omega, fun p hp => (h.n p hp).moved c.o c.f⟩
end
end Go.Proofs.YtkkgpdejmcpcpaaGreatDoor

/- Chapter 20: how many levels a square has. -/
namespace Go.Proofs.YtkkgpdejmcpcpaaGreatDoor
open Go.RowKit

def sumL : List Nat → Nat
  | [] => 0
  | n :: r => min n 20001 + sumL r
set_option maxRecDepth 100000 in
set_option maxHeartbeats 2000000 in
theorem weighs_any (k mode m0 m1 m2 m3 x y : Int) (A0 A1 A2 A3 A4 : Option Addr) (n0 n1 n2 n3 n4 c0 c1 c2 c3 c4 : Nat) (w : World)
    (h0 : n0 ≤ maxLen) (h1 : n1 ≤ maxLen) (h2 : n2 ≤ maxLen) (h3 : n3 ≤ maxLen) (h4 : n4 ≤ maxLen) :
    Calls Tryz.prog 28 #[sqV k mode m0 m1 m2 m3 x y (.slice A0 n0 c0) (.slice A1 n1 c1) (.slice A2 n2 c2) (.slice A3 n3 c3) (.slice A4 n4 c4)] w fun e w' => e = .returned (.int .i64 (sumL [n0, n1, n2, n3, n4] : Nat)) ∧ Below w.heap.size w w' := by
  unfold sqV
  have hb1 : Below w.heap.size w (w.alloc (.cells #[.int .i64 k, .int .i64 mode, .int .i64 m0, .int .i64 m1, .int .i64 m2, .int .i64 m3, .int .i64 x, .int .i64 y, .slice A0 n0 c0, .slice A1 n1 c1, .slice A2 n2 c2, .slice A3 n3 c3, .slice A4 n4 c4] 36)) := (Below.refl _ _).alloc (Nat.le_refl _) _
  have B1 := hid hb1
  have HK := hid (Blk.new w 36 #[.int .i64 k, .int .i64 mode, .int .i64 m0, .int .i64 m1, .int .i64 m2, .int .i64 m3, .int .i64 x, .int .i64 y, .slice A0 n0 c0, .slice A1 n1 c1, .slice A2 n2 c2, .slice A3 n3 c3, .slice A4 n4 c4])
  clear hb1
  unfold maxLen at h0 h1 h2 h3 h4
  have i0 : (n0 : Int) ≤ 9223372036854775807 := by omega
  have i1 : (n1 : Int) ≤ 9223372036854775807 := by omega
  have i2 : (n2 : Int) ≤ 9223372036854775807 := by omega
  have i3 : (n3 : Int) ≤ 9223372036854775807 := by omega
  have i4 : (n4 : Int) ≤ 9223372036854775807 := by omega
  have TOT := hid (show sumL [n0, n1, n2, n3, n4] = min n0 20001 + sumL ([n1, n2, n3, n4].drop 0) from rfl)
  generalize sumL [n0, n1, n2, n3, n4] = tot at *
  clear h0 h1 h2 h3 h4
  go_enter Tryz.func28, Tryz.ntmps28
  go_wp2_with fail
  generalize hw1 : w.alloc (.cells #[.int .i64 k, .int .i64 mode, .int .i64 m0, .int .i64 m1, .int .i64 m2, .int .i64 m3, .int .i64 x, .int .i64 y, .slice A0 n0 c0, .slice A1 n1 c1, .slice A2 n2 c2, .slice A3 n3 c3, .slice A4 n4 c4] 36) = w1 at *
  clear hw1
  have d9 : w1.cell? ⟨w.heap.size, 9, none⟩ = some (.slice A1 n1 c1) := by simpa using HK.out.cell 9
  have d10 : w1.cell? ⟨w.heap.size, 10, none⟩ = some (.slice A2 n2 c2) := by simpa using HK.out.cell 10
  have d11 : w1.cell? ⟨w.heap.size, 11, none⟩ = some (.slice A3 n3 c3) := by simpa using HK.out.cell 11
  have d12 : w1.cell? ⟨w.heap.size, 12, none⟩ = some (.slice A4 n4 c4) := by simpa using HK.out.cell 12
  go_loopg [3, 4] 4 (fun j nv iv wr => ∃ i n : Nat, i + j = 4 ∧ iv = .int .i64 i ∧ nv = .int .i64 n ∧ n ≤ 20001 * (i + 1) ∧ w1 = wr ∧ tot = n + sumL ([n1, n2, n3, n4].drop i))
  case atStart => exact ⟨0, min n0 20001, by omega, rfl, by go_num, by omega, rfl, TOT.out⟩
  case round =>
    obtain ⟨i, n, hij, rfl, rfl, hn, rfl, hq⟩ := hrel
    have HQ := hid (And.intro hij (And.intro hq hn))
    have hnb : (0 : Int) ≤ (n : Int) ∧ (n : Int) ≤ 2000000 := by omega
    have hci : i = 4 ∨ i = 0 ∨ i = 1 ∨ i = 2 ∨ i = 3 := by omega
    clear hij hq hn
    rcases hci with rfl | rfl | rfl | rfl | rfl
    · go_wp2_with fail
      go_ret
      refine ⟨?_, B1.out⟩
      rw [HQ.out.2.1]
      rfl
    all_goals
      go_wp2_with fail
      go_roundg (gk - 1)
      case measure => have := HQ.out.1; omega
      case rel =>
        first
          | exact ⟨1, n + min n1 20001, by have := HQ.out.1; omega, by go_num, by go_num, by have := HQ.out.2.2; omega, rfl, by rw [HQ.out.2.1, Nat.add_assoc]; rfl⟩
          | exact ⟨2, n + min n2 20001, by have := HQ.out.1; omega, by go_num, by go_num, by have := HQ.out.2.2; omega, rfl, by rw [HQ.out.2.1, Nat.add_assoc]; rfl⟩
          | exact ⟨3, n + min n3 20001, by have := HQ.out.1; omega, by go_num, by go_num, by have := HQ.out.2.2; omega, rfl, by rw [HQ.out.2.1, Nat.add_assoc]; rfl⟩
          | exact ⟨4, n + min n4 20001, by have := HQ.out.1; omega, by go_num, by go_num, by have := HQ.out.2.2; omega, rfl, by rw [HQ.out.2.1, Nat.add_assoc]; rfl⟩
end Go.Proofs.YtkkgpdejmcpcpaaGreatDoor

/- Chapter 14: lists of lists: few; a list copied. -/
namespace Go.Proofs.YtkkgpdejmcpcpaaGreatDoor
open Go.RowKit

theorem nums_of_els {w : World} {x : Value} {l : List Int} (h : Els w 1 IntR x l) : Nums w x l := by
  obtain ⟨A, c, h1, h2, h3⟩ := h
  refine ⟨A, c, h1, h2, fun h0 => ?_⟩
  obtain ⟨b, off, h4, h5, h6⟩ := h3 h0
  refine ⟨b, off, h4, h5, fun i v hv => ?_⟩
  obtain ⟨cs, _, ⟨rfl, _⟩, h8⟩ := h6 i v hv
  simpa using h8 0 _ rfl
/-- A list of the argument, as it lies. -/
theorem ints_at {w : World} {A : Option Addr} {n c : Nat} {l : List (List Int)} (h : Els w 1 (IntsR w) (.slice A n c) l) {i : Nat} {zs : List Int} (hz : l[i]? = some zs) :
    ∃ b off A' c', A = some ⟨b, off, none⟩ ∧ b < w.heap.size ∧ w.cell? ⟨b, off + i, none⟩ = some (.slice A' zs.length c') ∧ Nums w (.slice A' zs.length c') zs ∧ zs.length ≤ maxLen := by
  obtain ⟨b, off, cs, e, hb, _, ⟨v, rfl, hE, hm⟩, hc⟩ := Els.at_ h hz
  obtain ⟨A', c', rfl, _⟩ := Els.form hE
  exact ⟨b, off, A', c', e, hb, by simpa using hc 0 _ rfl, nums_of_els hE, hm⟩
theorem one_intV (l : List Int) : ∀ u ∈ l.map intV, u.oneCell' = true := by
  intro u hu
  obtain ⟨z, _, rfl⟩ := List.mem_map.1 hu
  rfl
theorem copy_ints (x : Value) (l : List Int) (w : World) (hx : Nums w x l) (hl : l.length ≤ 1000000) :
    Calls Tryz.prog 31 #[x] w fun e w' => ∃ g cap, e = .returned (.slice (some ⟨g, 0, none⟩) l.length cap) ∧ w'.ownsRow w.heap.size 3 1 (.slice (some ⟨g, 0, none⟩) l.length cap) l.length (l.map intV) ∧ Below w.heap.size w w' := by
  obtain ⟨i0, hi0, hz0, hz1, hz2⟩ := info_parts info_int1
  have hfrom := (hx.below ((Below.refl w.heap.size w).alloc (Nat.le_refl _) (.cells #[] 3))).from_
  have F := hid hfrom
  clear hfrom hx
  go_enter Tryz.func31, Tryz.ntmps31
  go_wp2_with (at_builtin; refine wpList_append_form _ rfl _ _ _ rfl w.heap.size 3 i0 (.int .i64 0) 1 8 Tryz.underlying33 hi0 hz0 hz1 hz2 rfl (by omega) (.slice (some ⟨w.heap.size, 0, none⟩) 0 0) 0 [] rfl (World.ownsRow_lit w #[] 0 (Nat.le_refl _) (by unfold maxLen; omega) rfl) x l.length (l.map intV) rfl F.out (one_intV l) (.inl (by simp [Value.ownBlock])) (by unfold maxLen; omega) (by omega) (by simp) l.length (l.map intV) (by simp) (by simp) ?_; intro g cap w1 hown hgrow hat hlt)
  have hb : Below w.heap.size w w1 := ((Below.refl _ _).alloc (Nat.le_refl _) _).grown hgrow (by simp) (fun k hk => by simp [Value.ownBlock] at hk; omega)
  go_ret
  exact ⟨g, cap, rfl, hown, hb⟩
end Go.Proofs.YtkkgpdejmcpcpaaGreatDoor

/- Chapter 20: a square copied. -/
namespace Go.Proofs.YtkkgpdejmcpcpaaGreatDoor
open Go.RowKit

/-- A list of one's own. -/
def Own1 (w W : World) (v : Value) (l : List Int) : Prop := ∃ g cap, v = .slice (some ⟨g, 0, none⟩) l.length cap ∧ w.heap.size + 2 ≤ g ∧ NOff v l W (fun _ => False)
theorem Own1.below {w W W' : World} {v : Value} {l : List Int} (h : Own1 w W v l) (hb : Below W.heap.size W W') : Own1 w W' v l := by
  obtain ⟨g, cap, h1, h2, h3⟩ := h
  exact ⟨g, cap, h1, h2, h3.below hb⟩
theorem Own1.put {w W : World} {v : Value} {l : List Int} (h : Own1 w W v l) {ob : Nat} (ho : ob < w.heap.size + 2) (i : Nat) (u : Value) : Own1 w (W.setCell ⟨ob, i, none⟩ u) v l := by
  obtain ⟨g, cap, h1, h2, h3⟩ := h
  subst h1
  refine ⟨g, cap, rfl, h2, h3.put (fun k hk => ?_) i u⟩
  simp [Value.ownBlock] at hk
  omega
theorem Own1.of {w W W' : World} {g cap : Nat} {l : List Int} (h : W'.ownsRow W.heap.size 3 1 (.slice (some ⟨g, 0, none⟩) l.length cap) l.length (l.map intV)) (hs : w.heap.size + 2 ≤ W.heap.size) : Own1 w W' (.slice (some ⟨g, 0, none⟩) l.length cap) l := by
  have hn := Nums.of_own h rfl
  rcases h.2 with ⟨h1, _⟩ | ⟨g', cap', cur, h1, h2, h3, _⟩
  · injection h1 with h1; cases h1
  · obtain ⟨rfl, rfl⟩ : g = g' ∧ cap = cap' := by simpa using h1
    refine ⟨g, cap, rfl, by omega, hn, fun _ _ hf => hf, fun k hk => ?_⟩
    simp [Value.ownBlock] at hk
    subst hk
    exact (Array.getElem?_eq_some_iff.1 h3).1
/-- The square's block, the answer's block. -/
structure CpW (w W : World) (cs : Array Value) : Prop where
  box : Blk W w.heap.size 36 cs
  res : Blk W (w.heap.size + 1) 36 #[.int .i64 0, .int .i64 0, .int .i64 0, .int .i64 0, .int .i64 0, .int .i64 0, .int .i64 0, .int .i64 0, nilS, nilS, nilS, nilS, nilS]
  b : Below w.heap.size w W
theorem CpW.new (w : World) (cs : Array Value) : CpW w ((w.alloc (.cells cs 36)).alloc (.cells #[.int .i64 0, .int .i64 0, .int .i64 0, .int .i64 0, .int .i64 0, .int .i64 0, .int .i64 0, .int .i64 0, nilS, nilS, nilS, nilS, nilS] 36)) cs :=
  ⟨(Blk.new _ _ _).alloc _, Blk.newAt' _ _ _ (by simp), ((Below.refl _ _).alloc (Nat.le_refl _) _).alloc (by simp) _⟩
theorem CpW.step {w W W' : World} {cs : Array Value} (h : CpW w W cs) (hb : Below W.heap.size W W') : CpW w W' cs :=
  ⟨h.box.below hb h.box.lt, h.res.below hb h.res.lt, h.b.trans (hb.mono h.b.size)⟩
theorem CpW.put {w W : World} {cs : Array Value} (h : CpW w W cs) (i : Nat) (u : Value) : CpW w (W.setCell ⟨w.heap.size, i, none⟩ u) (cs.setIfInBounds i u) :=
  ⟨h.box.put i u, h.res.far (p := ⟨w.heap.size, i, none⟩) (by show w.heap.size + 1 ≠ w.heap.size; omega) _, h.b.setCell (p := ⟨w.heap.size, i, none⟩) (Nat.le_refl _) _⟩
theorem CpW.room {w W : World} {cs : Array Value} (h : CpW w W cs) : w.heap.size + 2 ≤ W.heap.size := by have := h.res.lt; omega
theorem Below.put13 {w W : World} {ob : Nat} (h : Below w.heap.size w W) (lo : w.heap.size ≤ ob) (k mode m0 m1 m2 m3 x y : Int) (lv v0 v1 v2 v3 : Value) : Below w.heap.size w (((((((((((((W.setCell ⟨ob, 0, none⟩ (.int .i64 k)).setCell ⟨ob, 1, none⟩ (.int .i64 mode)).setCell ⟨ob, 2, none⟩ (.int .i64 m0)).setCell ⟨ob, 3, none⟩ (.int .i64 m1)).setCell ⟨ob, 4, none⟩ (.int .i64 m2)).setCell ⟨ob, 5, none⟩ (.int .i64 m3)).setCell ⟨ob, 6, none⟩ (.int .i64 x)).setCell ⟨ob, 7, none⟩ (.int .i64 y)).setCell ⟨ob, 8, none⟩ lv).setCell ⟨ob, 9, none⟩ v0).setCell ⟨ob, 10, none⟩ v1).setCell ⟨ob, 11, none⟩ v2).setCell ⟨ob, 12, none⟩ v3) :=
  ((((((((((((h.setCell (p := ⟨ob, 0, none⟩) lo _).setCell (p := ⟨ob, 1, none⟩) lo _).setCell (p := ⟨ob, 2, none⟩) lo _).setCell (p := ⟨ob, 3, none⟩) lo _).setCell (p := ⟨ob, 4, none⟩) lo _).setCell (p := ⟨ob, 5, none⟩) lo _).setCell (p := ⟨ob, 6, none⟩) lo _).setCell (p := ⟨ob, 7, none⟩) lo _).setCell (p := ⟨ob, 8, none⟩) lo _).setCell (p := ⟨ob, 9, none⟩) lo _).setCell (p := ⟨ob, 10, none⟩) lo _).setCell (p := ⟨ob, 11, none⟩) lo _).setCell (p := ⟨ob, 12, none⟩) lo _
theorem Own1.put13 {w W : World} {v : Value} {l : List Int} (h : Own1 w W v l) {ob : Nat} (ho : ob < w.heap.size + 2) (k mode m0 m1 m2 m3 x y : Int) (lv v0 v1 v2 v3 : Value) : Own1 w (((((((((((((W.setCell ⟨ob, 0, none⟩ (.int .i64 k)).setCell ⟨ob, 1, none⟩ (.int .i64 mode)).setCell ⟨ob, 2, none⟩ (.int .i64 m0)).setCell ⟨ob, 3, none⟩ (.int .i64 m1)).setCell ⟨ob, 4, none⟩ (.int .i64 m2)).setCell ⟨ob, 5, none⟩ (.int .i64 m3)).setCell ⟨ob, 6, none⟩ (.int .i64 x)).setCell ⟨ob, 7, none⟩ (.int .i64 y)).setCell ⟨ob, 8, none⟩ lv).setCell ⟨ob, 9, none⟩ v0).setCell ⟨ob, 10, none⟩ v1).setCell ⟨ob, 11, none⟩ v2).setCell ⟨ob, 12, none⟩ v3) v l :=
  ((((((((((((h.put ho 0 _).put ho 1 _).put ho 2 _).put ho 3 _).put ho 4 _).put ho 5 _).put ho 6 _).put ho 7 _).put ho 8 _).put ho 9 _).put ho 10 _).put ho 11 _).put ho 12 _
set_option maxRecDepth 100000 in
set_option maxHeartbeats 4000000 in
theorem copied_any (k mode m0 m1 m2 m3 x y : Int) (lv v0 v1 v2 v3 : Value) (ll l0 l1 l2 l3 : List Int) (w : World)
    (hn : Nums w lv ll ∧ Nums w v0 l0 ∧ Nums w v1 l1 ∧ Nums w v2 l2 ∧ Nums w v3 l3) (hl : ll.length ≤ 1000000 ∧ l0.length ≤ 1000000 ∧ l1.length ≤ 1000000 ∧ l2.length ≤ 1000000 ∧ l3.length ≤ 1000000) :
    Calls Tryz.prog 9 #[sqV k mode m0 m1 m2 m3 x y lv v0 v1 v2 v3] w fun e w' => ∃ lu u0 u1 u2 u3, e = .returned (sqV k mode m0 m1 m2 m3 x y lu u0 u1 u2 u3) ∧ Below w.heap.size w w' ∧ Own1 w w' lu ll ∧ Own1 w w' u0 l0 ∧ Own1 w w' u1 l1 ∧ Own1 w w' u2 l2 ∧ Own1 w w' u3 l3 := by
  have AW := hid (CpW.new w #[.int .i64 k, .int .i64 mode, .int .i64 m0, .int .i64 m1, .int .i64 m2, .int .i64 m3, .int .i64 x, .int .i64 y, lv, v0, v1, v2, v3])
  have N := hid hn
  have LL := hid hl
  clear hn hl
  unfold sqV
  go_enter Tryz.func9, Tryz.ntmps9
  go_wp2_with fail
  generalize ((w.alloc _).alloc _ : World) = w1 at *
  refine (copy_ints lv ll _ (N.out.1.below AW.out.b) LL.out.1).mono ?_
  rintro e w2 ⟨g, cap, rfl, hown, hb2⟩
  have A2 := AW.out.step hb2
  have c8 : w2.cell? ⟨w.heap.size, 8, none⟩ = some lv := by simpa using A2.box.cell 8
  have f8 := A2.box.frozen 8
  have O2 := hid (And.intro (show CpW w (w2.setCell ⟨w.heap.size, 8, none⟩ (.slice (some ⟨g, 0, none⟩) ll.length cap)) #[.int .i64 k, .int .i64 mode, .int .i64 m0, .int .i64 m1, .int .i64 m2, .int .i64 m3, .int .i64 x, .int .i64 y, (.slice (some ⟨g, 0, none⟩) ll.length cap), v0, v1, v2, v3] from A2.put 8 _) ((Own1.of (w := w) hown AW.out.room).put (ob := w.heap.size) (by omega) 8 (.slice (some ⟨g, 0, none⟩) ll.length cap)))
  clear hown hb2 A2
  go_wp2_with fail
  generalize w2.setCell ⟨w.heap.size, 8, none⟩ (.slice (some ⟨g, 0, none⟩) ll.length cap) = w3 at *
  clear c8 f8
  go_loopg [3] 4 (fun j iv wr => ∃ (i : Nat) (u0 u1 u2 u3 : Value), i + j = 4 ∧ iv = .int .i64 i ∧ CpW w wr #[.int .i64 k, .int .i64 mode, .int .i64 m0, .int .i64 m1, .int .i64 m2, .int .i64 m3, .int .i64 x, .int .i64 y, (.slice (some ⟨g, 0, none⟩) ll.length cap), u0, u1, u2, u3] ∧ Own1 w wr (.slice (some ⟨g, 0, none⟩) ll.length cap) ll ∧ (if 0 < i then Own1 w wr u0 l0 else u0 = v0) ∧ (if 1 < i then Own1 w wr u1 l1 else u1 = v1) ∧ (if 2 < i then Own1 w wr u2 l2 else u2 = v2) ∧ (if 3 < i then Own1 w wr u3 l3 else u3 = v3))
  case atStart => exact ⟨0, v0, v1, v2, v3, by omega, rfl, O2.out.1, O2.out.2, rfl, rfl, rfl, rfl⟩
  case round =>
    obtain ⟨i, u0, u1, u2, u3, hij, rfl, hA, hO, hu0, hu1, hu2, hu3⟩ := hrel
    have IJ := hid hij
    have hci : i = 4 ∨ i = 0 ∨ i = 1 ∨ i = 2 ∨ i = 3 := by omega
    clear hij
    rcases hci with rfl | rfl | rfl | rfl | rfl
    · have hu := hid (And.intro hO (And.intro (show Own1 w wr u0 l0 from hu0) (And.intro (show Own1 w wr u1 l1 from hu1) (And.intro (show Own1 w wr u2 l2 from hu2) (show Own1 w wr u3 l3 from hu3)))))
      clear hu0 hu1 hu2 hu3 hO
      obtain ⟨h0g, h0c, rfl, _⟩ := id hu.out.2.1
      obtain ⟨h1g, h1c, rfl, _⟩ := id hu.out.2.2.1
      obtain ⟨h2g, h2c, rfl, _⟩ := id hu.out.2.2.2.1
      obtain ⟨h3g, h3c, rfl, _⟩ := id hu.out.2.2.2.2
      have hbox := SqBlk.of hA.box rfl
      have hres : SqBlk wr (w.heap.size + 1) 36 0 0 [] 0 0 nilS [] := SqBlk.new hA.res rfl
      have BB := hid hA.b
      obtain ⟨⟨q0, q1⟩, ⟨q2, q3, q4, q5⟩, ⟨q6, q7, q8⟩, q9, q10, q11, q12⟩ := hbox.all4
      obtain ⟨⟨r0, r1⟩, ⟨r2, r3, r4, r5⟩, ⟨r6, r7, r8⟩, r9, r10, r11, r12⟩ := hres.all4'
      have f0 := hres.frozen 0
      have f1 := hres.frozen 1
      have f2 := hres.frozen 2
      have f3 := hres.frozen 3
      have f4 := hres.frozen 4
      have f5 := hres.frozen 5
      have f6 := hres.frozen 6
      have f7 := hres.frozen 7
      have f8 := hres.frozen 8
      have f9 := hres.frozen 9
      have f10 := hres.frozen 10
      have f11 := hres.frozen 11
      have f12 := hres.frozen 12
      have RS := hid hres
      clear hA hbox hres
      go_wp2_with fail
      obtain ⟨⟨z0, z1⟩, ⟨z2, z3, z4, z5⟩, ⟨z6, z7, z8⟩, z9, z10, z11, z12⟩ := (RS.out.set13 k mode m0 m1 m2 m3 x y (.slice (some ⟨g, 0, none⟩) ll.length cap) (.slice (some ⟨h0g, 0, none⟩) l0.length h0c) (.slice (some ⟨h1g, 0, none⟩) l1.length h1c) (.slice (some ⟨h2g, 0, none⟩) l2.length h2c) (.slice (some ⟨h3g, 0, none⟩) l3.length h3c)).all4
      exact bodyPost_ret (v := sqV k mode m0 m1 m2 m3 x y (.slice (some ⟨g, 0, none⟩) ll.length cap) (.slice (some ⟨h0g, 0, none⟩) l0.length h0c) (.slice (some ⟨h1g, 0, none⟩) l1.length h1c) (.slice (some ⟨h2g, 0, none⟩) l2.length h2c) (.slice (some ⟨h3g, 0, none⟩) l3.length h3c)) (by simp [sqV, results, Tryz.results9, go_sem, z0, z1, z2, z3, z4, z5, z6, z7, z8, z9, z10, z11, z12]) rfl ⟨_, _, _, _, _, rfl, Below.put13 BB.out (by omega) _ _ _ _ _ _ _ _ _ _ _ _ _, hu.out.1.put13 (by omega) _ _ _ _ _ _ _ _ _ _ _ _ _, hu.out.2.1.put13 (by omega) _ _ _ _ _ _ _ _ _ _ _ _ _, hu.out.2.2.1.put13 (by omega) _ _ _ _ _ _ _ _ _ _ _ _ _, hu.out.2.2.2.1.put13 (by omega) _ _ _ _ _ _ _ _ _ _ _ _ _, hu.out.2.2.2.2.put13 (by omega) _ _ _ _ _ _ _ _ _ _ _ _ _⟩
    · obtain rfl : u0 = v0 := hu0; obtain rfl : u1 = v1 := hu1; obtain rfl : u2 = v2 := hu2; obtain rfl : u3 = v3 := hu3
      have HU := hid (And.intro hA (And.intro hO True.intro))
      have c9 : wr.cell? ⟨w.heap.size, 9, none⟩ = some u0 := by simpa using hA.box.cell 9
      clear hA hO
      go_wp2_with fail
      refine (copy_ints u0 l0 _ (N.out.2.1.below HU.out.1.b) LL.out.2.1).mono ?_
      rintro e w4 ⟨g4, cap4, rfl, hown, hb4⟩
      have A4 := HU.out.1.step hb4
      have d9 : w4.cell? ⟨w.heap.size, 9, none⟩ = some u0 := by simpa using A4.box.cell 9
      have f9 := A4.box.frozen 9
      have O4 := hid (And.intro (show CpW w (w4.setCell ⟨w.heap.size, 9, none⟩ (.slice (some ⟨g4, 0, none⟩) l0.length cap4)) #[.int .i64 k, .int .i64 mode, .int .i64 m0, .int .i64 m1, .int .i64 m2, .int .i64 m3, .int .i64 x, .int .i64 y, (.slice (some ⟨g, 0, none⟩) ll.length cap), (.slice (some ⟨g4, 0, none⟩) l0.length cap4), u1, u2, u3] from A4.put 9 _) ((Own1.of (w := w) hown HU.out.1.room).put (ob := w.heap.size) (by omega) 9 (.slice (some ⟨g4, 0, none⟩) l0.length cap4)))
      have B4 := hid hb4
      clear hown hb4 A4
      go_wp2_with fail
      go_roundg (gk - 1)
      case measure => have := IJ.out; omega
      case rel => exact ⟨1, _, u1, u2, u3, by have := IJ.out; omega, by go_num, O4.out.1, (HU.out.2.1.below B4.out).put (ob := w.heap.size) (by omega) _ _, O4.out.2, rfl, rfl, rfl⟩
    · obtain rfl : u1 = v1 := hu1; obtain rfl : u2 = v2 := hu2; obtain rfl : u3 = v3 := hu3
      have HU := hid (And.intro hA (And.intro hO (And.intro (show Own1 w wr u0 l0 from hu0) True.intro)))
      have c10 : wr.cell? ⟨w.heap.size, 10, none⟩ = some u1 := by simpa using hA.box.cell 10
      clear hA hO hu0
      go_wp2_with fail
      refine (copy_ints u1 l1 _ (N.out.2.2.1.below HU.out.1.b) LL.out.2.2.1).mono ?_
      rintro e w4 ⟨g4, cap4, rfl, hown, hb4⟩
      have A4 := HU.out.1.step hb4
      have d10 : w4.cell? ⟨w.heap.size, 10, none⟩ = some u1 := by simpa using A4.box.cell 10
      have f10 := A4.box.frozen 10
      have O4 := hid (And.intro (show CpW w (w4.setCell ⟨w.heap.size, 10, none⟩ (.slice (some ⟨g4, 0, none⟩) l1.length cap4)) #[.int .i64 k, .int .i64 mode, .int .i64 m0, .int .i64 m1, .int .i64 m2, .int .i64 m3, .int .i64 x, .int .i64 y, (.slice (some ⟨g, 0, none⟩) ll.length cap), u0, (.slice (some ⟨g4, 0, none⟩) l1.length cap4), u2, u3] from A4.put 10 _) ((Own1.of (w := w) hown HU.out.1.room).put (ob := w.heap.size) (by omega) 10 (.slice (some ⟨g4, 0, none⟩) l1.length cap4)))
      have B4 := hid hb4
      clear hown hb4 A4
      go_wp2_with fail
      go_roundg (gk - 1)
      case measure => have := IJ.out; omega
      case rel => exact ⟨2, u0, _, u2, u3, by have := IJ.out; omega, by go_num, O4.out.1, (HU.out.2.1.below B4.out).put (ob := w.heap.size) (by omega) _ _, ((HU.out.2.2.1).below B4.out).put (ob := w.heap.size) (by omega) _ _, O4.out.2, rfl, rfl⟩
    · obtain rfl : u2 = v2 := hu2; obtain rfl : u3 = v3 := hu3
      have HU := hid (And.intro hA (And.intro hO (And.intro (show Own1 w wr u0 l0 from hu0) (And.intro (show Own1 w wr u1 l1 from hu1) True.intro))))
      have c11 : wr.cell? ⟨w.heap.size, 11, none⟩ = some u2 := by simpa using hA.box.cell 11
      clear hA hO hu0 hu1
      go_wp2_with fail
      refine (copy_ints u2 l2 _ (N.out.2.2.2.1.below HU.out.1.b) LL.out.2.2.2.1).mono ?_
      rintro e w4 ⟨g4, cap4, rfl, hown, hb4⟩
      have A4 := HU.out.1.step hb4
      have d11 : w4.cell? ⟨w.heap.size, 11, none⟩ = some u2 := by simpa using A4.box.cell 11
      have f11 := A4.box.frozen 11
      have O4 := hid (And.intro (show CpW w (w4.setCell ⟨w.heap.size, 11, none⟩ (.slice (some ⟨g4, 0, none⟩) l2.length cap4)) #[.int .i64 k, .int .i64 mode, .int .i64 m0, .int .i64 m1, .int .i64 m2, .int .i64 m3, .int .i64 x, .int .i64 y, (.slice (some ⟨g, 0, none⟩) ll.length cap), u0, u1, (.slice (some ⟨g4, 0, none⟩) l2.length cap4), u3] from A4.put 11 _) ((Own1.of (w := w) hown HU.out.1.room).put (ob := w.heap.size) (by omega) 11 (.slice (some ⟨g4, 0, none⟩) l2.length cap4)))
      have B4 := hid hb4
      clear hown hb4 A4
      go_wp2_with fail
      go_roundg (gk - 1)
      case measure => have := IJ.out; omega
      case rel => exact ⟨3, u0, u1, _, u3, by have := IJ.out; omega, by go_num, O4.out.1, (HU.out.2.1.below B4.out).put (ob := w.heap.size) (by omega) _ _, ((HU.out.2.2.1).below B4.out).put (ob := w.heap.size) (by omega) _ _, ((HU.out.2.2.2.1).below B4.out).put (ob := w.heap.size) (by omega) _ _, O4.out.2, rfl⟩
    · obtain rfl : u3 = v3 := hu3
      have HU := hid (And.intro hA (And.intro hO (And.intro (show Own1 w wr u0 l0 from hu0) (And.intro (show Own1 w wr u1 l1 from hu1) (And.intro (show Own1 w wr u2 l2 from hu2) True.intro)))))
      have c12 : wr.cell? ⟨w.heap.size, 12, none⟩ = some u3 := by simpa using hA.box.cell 12
      clear hA hO hu0 hu1 hu2
      go_wp2_with fail
      refine (copy_ints u3 l3 _ (N.out.2.2.2.2.below HU.out.1.b) LL.out.2.2.2.2).mono ?_
      rintro e w4 ⟨g4, cap4, rfl, hown, hb4⟩
      have A4 := HU.out.1.step hb4
      have d12 : w4.cell? ⟨w.heap.size, 12, none⟩ = some u3 := by simpa using A4.box.cell 12
      have f12 := A4.box.frozen 12
      have O4 := hid (And.intro (show CpW w (w4.setCell ⟨w.heap.size, 12, none⟩ (.slice (some ⟨g4, 0, none⟩) l3.length cap4)) #[.int .i64 k, .int .i64 mode, .int .i64 m0, .int .i64 m1, .int .i64 m2, .int .i64 m3, .int .i64 x, .int .i64 y, (.slice (some ⟨g, 0, none⟩) ll.length cap), u0, u1, u2, (.slice (some ⟨g4, 0, none⟩) l3.length cap4)] from A4.put 12 _) ((Own1.of (w := w) hown HU.out.1.room).put (ob := w.heap.size) (by omega) 12 (.slice (some ⟨g4, 0, none⟩) l3.length cap4)))
      have B4 := hid hb4
      clear hown hb4 A4
      go_wp2_with fail
      go_roundg (gk - 1)
      case measure => have := IJ.out; omega
      case rel => exact ⟨4, u0, u1, u2, _, by have := IJ.out; omega, by go_num, O4.out.1, (HU.out.2.1.below B4.out).put (ob := w.heap.size) (by omega) _ _, ((HU.out.2.2.1).below B4.out).put (ob := w.heap.size) (by omega) _ _, ((HU.out.2.2.2.1).below B4.out).put (ob := w.heap.size) (by omega) _ _, ((HU.out.2.2.2.2.1).below B4.out).put (ob := w.heap.size) (by omega) _ _, O4.out.2⟩
end Go.Proofs.YtkkgpdejmcpcpaaGreatDoor

