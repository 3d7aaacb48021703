/- Parts: XOpenEls, XOpenLst, XKinds20, XFew20, XFew. -/
import Derived.Test.YtkkgpdejmcpcpaaGreatDoorM41
import Derived.SizedLaws
import Derived.Test.YtkkgpdejmcpcpaaGreatDoorM40
import Derived.Lib.MinMax
import Derived.Test.YtkkgpdejmcpcpaaGreatDoorM22
import Derived.Test.YtkkgpdejmcpcpaaGreatDoorM18
/- Arguments opened: a slice whose elements read as something; ints. -/
namespace Go.Proofs.YtkkgpdejmcpcpaaGreatDoor
open Go.ChangeShapes Go.WideShapes Go.ChangeAt Go.RowKit Go.Deep

/-- The slice x has these elements, of s cells each. -/
def Els {α : Type} (w : World) (s : Nat) (R : α → List Value → Prop) (x : Value) (l : List α) : Prop :=
  ∃ A c, x = .slice A l.length c ∧ l.length ≤ c ∧ (l ≠ [] → ∃ b off, A = some ⟨b, off, none⟩ ∧ b < w.heap.size ∧
    ∀ (i : Nat) (a : α), l[i]? = some a → ∃ cs, cs.length = s ∧ R a cs ∧ ∀ (j : Nat) (u : Value), cs[j]? = some u → w.cell? ⟨b, off + i * s + j, none⟩ = some u)
theorem Els.below {α : Type} {w w' : World} {s : Nat} {R : α → List Value → Prop} {x : Value} {l : List α} (h : Els w s R x l) (hb : Below w.heap.size w w') : Els w' s R x l := by
  obtain ⟨A, c, h1, h2, h3⟩ := h
  refine ⟨A, c, h1, h2, fun h0 => ?_⟩
  obtain ⟨b, off, h4, h5, h6⟩ := h3 h0
  refine ⟨b, off, h4, Nat.lt_of_lt_of_le h5 hb.size, fun i a ha => ?_⟩
  obtain ⟨cs, k1, k2, k3⟩ := h6 i a ha
  exact ⟨cs, k1, k2, fun j u hu => (World.cell?_of_block (w := w) (a := ⟨b, off + i * s + j, none⟩) (hb.block b h5)).trans (k3 j u hu)⟩
theorem Els.mono {α : Type} {w : World} {s : Nat} {R R' : α → List Value → Prop} {x : Value} {l : List α} (h : Els w s R x l) (hR : ∀ a cs, R a cs → R' a cs) : Els w s R' x l := by
  obtain ⟨A, c, h1, h2, h3⟩ := h
  refine ⟨A, c, h1, h2, fun h0 => ?_⟩
  obtain ⟨b, off, h4, h5, h6⟩ := h3 h0
  refine ⟨b, off, h4, h5, fun i a ha => ?_⟩
  obtain ⟨cs, k1, k2, k3⟩ := h6 i a ha
  exact ⟨cs, k1, hR _ _ k2, k3⟩
theorem Els.form {α : Type} {w : World} {s : Nat} {R : α → List Value → Prop} {x : Value} {l : List α} (h : Els w s R x l) : ∃ A c, x = .slice A l.length c ∧ l.length ≤ c := by
  obtain ⟨A, c, h1, h2, _⟩ := h
  exact ⟨A, c, h1, h2⟩
theorem Els.at_ {α : Type} {w : World} {s : Nat} {R : α → List Value → Prop} {A : Option Addr} {n c : Nat} {l : List α} (h : Els w s R (.slice A n c) l) {i : Nat} {a : α} (ha : l[i]? = some a) :
    ∃ b off cs, A = some ⟨b, off, none⟩ ∧ b < w.heap.size ∧ cs.length = s ∧ R a cs ∧ ∀ (j : Nat) (u : Value), cs[j]? = some u → w.cell? ⟨b, off + i * s + j, none⟩ = some u := by
  obtain ⟨A', c', e, _, h3⟩ := h
  injection e with e1 e2 e3
  subst e1
  obtain ⟨b, off, e4, h4, h5⟩ := h3 (by rintro rfl; simp at ha)
  obtain ⟨cs, k1, k2, k3⟩ := h5 i a ha
  exact ⟨b, off, cs, e4, h4, k1, k2, k3⟩
section
variable {H : Type} {enc : TypeId × Value → H} {w : World} {base : Nat} {spare : Nat → Bool} {held : Bool}
theorem open_gen {α : Type} [Inhabited α] {t e : TypeId} {s : Nat} (ht : Tryz.prog.underlying t = some (.slice e)) (hce : Tryz.prog.cellsOf e = s) (hs : 0 < s) (R : α → List Value → Prop)
    (hR : ∀ fuel cs x, DataW.trod enc Tryz.prog w base spare held fuel e cs = some x → cs.length = s → ∃ a, R a cs)
    {A : Option Addr} {len cap : Nat} {d : DataW H} {p : List MemPlace} (h : DataW.Trod enc Tryz.prog w base spare held t (.slice A len cap) d p) :
    ∃ l : List α, l.length = len ∧ Els w s R (.slice A len cap) l ∧ l.length ≤ maxLen := by
  obtain ⟨fuel, hf⟩ := h
  rcases open_slice ht hf with ⟨hcs, _⟩ | ⟨a, l, c, m, n, D, Pl, hcs, hb, hl, hm, hmm, _, hi⟩
  · simp [Value.cells] at hcs
    obtain ⟨rfl, rfl, rfl⟩ := hcs
    exact ⟨[], rfl, ⟨none, 0, rfl, Nat.le_refl _, fun h => absurd rfl h⟩, Nat.zero_le _⟩
  · simp [Value.cells] at hcs
    obtain ⟨rfl, rfl, rfl⟩ := hcs
    have hlm : len ≤ m := by rw [hmm]; split <;> omega
    have hone : ∀ i, i < len → ∃ o : α × List Value, o.2.length = s ∧ R o.1 o.2 ∧ ∀ (j : Nat) (u : Value), o.2[j]? = some u → w.cell? ((a.add (i * s)).add j) = some u := by
      intro i hlt
      obtain ⟨cs', hc, ht⟩ := hi i (by omega)
      rw [hce] at hc
      obtain ⟨_, hcl, hat⟩ := World.cells?_some hc
      obtain ⟨o, ho⟩ := hR _ _ _ ht hcl
      refine ⟨(o, cs'), hcl, ho, fun j u hu => ?_⟩
      have hj : j < s := by rw [← hcl]; exact (List.getElem?_eq_some_iff.1 hu).1
      rw [hat j hj]
      exact hu
    let f : Nat → α := fun i => if h : i < len then (hone i h).choose.1 else default
    have hfl : ((List.range len).map f).length = len := by simp
    refine ⟨(List.range len).map f, hfl, ⟨some a, cap, by rw [hfl], by rw [hfl]; omega, fun hne => ?_⟩, by rw [hfl]; omega⟩
    have hlen : 0 < len := by
      rcases Nat.eq_zero_or_pos len with h0 | h0
      · subst h0; exact absurd rfl hne
      · exact h0
    have hzero : ∀ i (h : i < len), ∃ u, w.cell? ((a.add (i * s)).add 0) = some u := by
      intro i h
      obtain ⟨o, h1, h2, h3⟩ := hone i h
      exact ⟨o.2[0], h3 0 _ (List.getElem?_eq_getElem (by omega))⟩
    obtain ⟨b, off, spot⟩ := a
    have hspot : spot = none := by
      obtain ⟨u, this⟩ := hzero 0 hlen
      simp [Addr.add] at this
      exact World.cell?_spot this
    subst hspot
    have had : ∀ b o i, (⟨b, o, none⟩ : Addr).add i = ⟨b, o + i, none⟩ := by intro b o i; unfold Addr.add; split <;> simp_all
    refine ⟨b, off, rfl, ?_, fun i o ho => ?_⟩
    · obtain ⟨u, this⟩ := hzero 0 hlen
      have h2 := World.block_lt_of_cell? _ _ this
      simpa [had] using h2
    · have hi' : i < len := by
        have := (List.getElem?_eq_some_iff.1 ho).1
        simpa using this
      have e : ((List.range len).map f)[i]? = some (hone i hi').choose.1 := by
        simp [f, hi']
      rw [e] at ho
      injection ho with ho
      subst ho
      obtain ⟨h1, h2, h3⟩ := (hone i hi').choose_spec
      refine ⟨(hone i hi').choose.2, h1, h2, fun j u hu => ?_⟩
      have := h3 j u hu
      rw [had, had] at this
      exact this
/-! ### ints -/
def IntR (z : Int) (cs : List Value) : Prop := cs = [.int .i64 z] ∧ (Lit.int .i64 z).wf = true
theorem open_ints2 {A : Option Addr} {len cap : Nat} {d : DataW H} {p : List MemPlace} (h : DataW.Trod enc Tryz.prog w base spare held 33 (.slice A len cap) d p) :
    ∃ l : List Int, l.length = len ∧ Els w 1 IntR (.slice A len cap) l ∧ l.length ≤ maxLen := by
  refine open_gen Tryz.underlying33 (by kernel_rfl) (by omega) IntR (fun fuel cs x hx hl => ?_) h
  obtain ⟨z, e0, _, hw⟩ := DataW.trod_int Tryz.underlying3 hx
  exact ⟨z, e0, hw⟩
end
end Go.Proofs.YtkkgpdejmcpcpaaGreatDoor

/- Arguments opened: bools; slices of ints. -/
namespace Go.Proofs.YtkkgpdejmcpcpaaGreatDoor
open Go.ChangeShapes Go.WideShapes Go.ChangeAt Go.RowKit Go.Deep
section
variable {H : Type} {enc : TypeId × Value → H} {w : World} {base : Nat} {spare : Nat → Bool} {held : Bool}
def BoolR (b : Bool) (cs : List Value) : Prop := cs = [.bool b]
theorem open_bools {A : Option Addr} {len cap : Nat} {d : DataW H} {p : List MemPlace} (h : DataW.Trod enc Tryz.prog w base spare held 23 (.slice A len cap) d p) :
    ∃ l : List Bool, l.length = len ∧ Els w 1 BoolR (.slice A len cap) l ∧ l.length ≤ maxLen := by
  refine open_gen Tryz.underlying23 (by kernel_rfl) (by omega) BoolR (fun fuel cs x hx hl => ?_) h
  obtain ⟨z, e0, _⟩ := DataW.trod_bool Tryz.underlying4 hx
  exact ⟨z, e0⟩
def IntsR (w : World) (zs : List Int) (cs : List Value) : Prop := ∃ v, cs = [v] ∧ Els w 1 IntR v zs ∧ zs.length ≤ maxLen
/-- An argument's bytes are no more than a machine reaches. -/
theorem byt_sized {A : Option Addr} {len cap : Nat} {d : DataW H} {p : List MemPlace} (h : DataW.Trod enc Tryz.prog w base spare held 53 (.slice A len cap) d p) {ts : List TypeId} {ds : List (DataW H)} {j : Nat}
    (hz : (DataW.weightsEach Tryz.prog ts ds).all (· ≤ reachBytes) = true) (ht : ts[j]? = some 53) (hd : ds[j]? = some d) : len ≤ 140737488351232 := by
  obtain ⟨fuel, hf⟩ := h
  rcases open_slice Tryz.underlying53 hf with ⟨hcs, _⟩ | ⟨a, l, c, m, n, D, Pl, hcs, hb, hl, hm, hmm, hx, _⟩
  · simp [Value.cells] at hcs
    obtain ⟨rfl, rfl, rfl⟩ := hcs
    omega
  · simp [Value.cells] at hcs
    obtain ⟨rfl, rfl, rfl⟩ := hcs
    injection hx with hx1 _
    subst hx1
    have h1 := sized_slice hz ht hd Tryz.underlying53
    rw [show Tryz.prog.bytesOf 5 = 1 by kernel_rfl] at h1
    simp only [List.length_map, List.length_range, Nat.mul_one] at h1
    unfold reachBytes at h1
    omega
end
end Go.Proofs.YtkkgpdejmcpcpaaGreatDoor

/- SyntaxKinds: plain; what the walk holds. -/
namespace Go.Proofs.YtkkgpdejmcpcpaaGreatDoor
open Go.RowKit

theorem nums_nilS (W : World) : Nums W nilS [] := ⟨none, 0, rfl, Nat.le_refl _, fun h => absurd rfl h⟩
/-- The parts, as numbers and lists. -/
theorem parts_num (W : World) (s : SqS) (m0 m1 m2 m3 : Int) (lv v0 v1 v2 v3 : Value) (l0 l1 l2 l3 : List Int) (hm : s.modes = [m0, m1, m2, m3]) (hs : s.small = [l0, l1, l2, l3]) (h : ∀ p ∈ [(lv, s.large), (v0, l0), (v1, l1), (v2, l2), (v3, l3)], Nums W p.1 p.2) (hk : s.kind = 0 ∨ s.kind = 1 ∨ s.kind = 2 ∨ s.kind = 3) :
    ∃ n0 n1 n2 n3 lu u0 u1 u2 u3 q0 q1 q2 q3, partsV s.kind s.mode m0 m1 m2 m3 s.x s.y lv v0 v1 v2 v3 = sqV (partsS s).kind (partsS s).mode n0 n1 n2 n3 (partsS s).x (partsS s).y lu u0 u1 u2 u3 ∧ (partsS s).modes = [n0, n1, n2, n3] ∧ (partsS s).small = [q0, q1, q2, q3] ∧ ∀ p ∈ [(lu, (partsS s).large), (u0, q0), (u1, q1), (u2, q2), (u3, q3)], Nums W p.1 p.2 := by
  have hn := nums_nilS W
  have h0 := h (lv, s.large) (by simp)
  have h1 := h (v0, l0) (by simp)
  have h2 := h (v1, l1) (by simp)
  have h3 := h (v2, l2) (by simp)
  have h4 := h (v3, l3) (by simp)
  unfold partsV partsS
  rcases hk with e | e | e | e
  · rw [e]
    refine ⟨0, 0, 0, 0, nilS, nilS, nilS, nilS, nilS, [], [], [], [], rfl, rfl, rfl, fun p hp => ?_⟩
    simp only [List.mem_cons, List.not_mem_nil, or_false] at hp
    rcases hp with rfl | rfl | rfl | rfl | rfl <;> exact hn
  · rw [e]
    refine ⟨0, 0, 0, 0, lv, nilS, nilS, nilS, nilS, [], [], [], [], rfl, rfl, rfl, fun p hp => ?_⟩
    simp only [List.mem_cons, List.not_mem_nil, or_false] at hp
    rcases hp with rfl | rfl | rfl | rfl | rfl
    · exact h0
    all_goals exact hn
  · rw [e]
    refine ⟨0, 0, 0, 0, lv, nilS, nilS, nilS, nilS, [], [], [], [], rfl, rfl, rfl, fun p hp => ?_⟩
    simp only [List.mem_cons, List.not_mem_nil, or_false] at hp
    rcases hp with rfl | rfl | rfl | rfl | rfl
    · exact h0
    all_goals exact hn
  · rw [e]
    refine ⟨m0, m1, m2, m3, nilS, v0, v1, v2, v3, l0, l1, l2, l3, rfl, hm, hs, fun p hp => ?_⟩
    simp only [List.mem_cons, List.not_mem_nil, or_false] at hp
    rcases hp with rfl | rfl | rfl | rfl | rfl
    · exact hn
    · exact h1
    · exact h2
    · exact h3
    · exact h4
theorem ok_code20 {σ : Type} {M : Mach σ} {fB fF : FuncId} {me : Value} {At : World → (Nat → Prop) → σ → Prop} {Ok : σ → Nat → Prop} (H : IsCoder M fB fF me At Ok) (key : Bool) (s : SqS) (h4 : s.modes.length ≤ 4) (st : σ) (lim : Nat) (h : Ok st lim) : ∃ m, m ≤ lim + 9000 ∧ Ok (M.run (codeA key s) st).2 m := by
  obtain ⟨m, h1, h2⟩ := H.okRun (codeA key s) 2853 (ctx_code key s) (most_code key s h4) st lim h
  exact ⟨m, by omega, h2⟩
/-- A list that was told, for another coder whose blocks are older. -/
theorem Lst.noff {w0 W : World} {F G : Nat → Prop} {v : Value} {l : List Int} (h : Lst w0 v l W F) (hG : ∀ k, G k → k < w0.heap.size) : NOff v l W G := by
  rcases h with ⟨rfl, rfl⟩ | ⟨g, rfl, h2⟩
  · exact ⟨nums_nilS W, fun k hk => by simp [Value.ownBlock] at hk, fun k hk => by simp [Value.ownBlock] at hk⟩
  · exact noff_new h2.b rfl rfl (fun e => by have := hG g e; have := h2.lo; omega)
theorem canon_len {key : Bool} {q : SqS} (h : RightS key q) (hp : partsS q = q) : q.large.length ≤ 64 ∧ ∀ l ∈ q.small, l.length ≤ 16 := by
  have hk0 := h.k0
  have hk3 := h.k3
  have hc : q.kind = 0 ∨ q.kind = 1 ∨ q.kind = 2 ∨ q.kind = 3 := by omega
  have hs4 : ∀ l ∈ ([[], [], [], []] : List (List Int)), l.length ≤ 16 := by decide
  rcases hc with e | e | e | e
  · have h1 : q.large = (partsS q).large := by rw [hp]
    have h2 : q.small = (partsS q).small := by rw [hp]
    unfold partsS at h1 h2
    rw [e] at h1 h2
    rw [h1, h2]
    exact ⟨by show (0 : Nat) ≤ 64; omega, hs4⟩
  · have h2 : q.small = (partsS q).small := by rw [hp]
    unfold partsS at h2
    rw [e] at h2
    rw [h2]
    exact ⟨by rw [(h.large (.inl e)).1]; omega, hs4⟩
  · have h2 : q.small = (partsS q).small := by rw [hp]
    unfold partsS at h2
    rw [e] at h2
    rw [h2]
    exact ⟨by rw [(h.large (.inr e)).1]; omega, hs4⟩
  · have h1 : q.large = (partsS q).large := by rw [hp]
    unfold partsS at h1
    rw [e] at h1
    rw [h1]
    exact ⟨by show (0 : Nat) ≤ 64; omega, fun l hl => by rw [((h.three e).2 l hl).1]; omega⟩
/-- Two coders, a square in its block with its lists. -/
structure KQ {σ τ : Type} (w : World) (A1 : World → (Nat → Prop) → σ → Prop) (A2 : World → (Nat → Prop) → τ → Prop) (F G : Nat → Prop) (s : σ) (t : τ) (ob : Nat) (q : SqS) (m0 m1 m2 m3 : Int) (lv v0 v1 v2 v3 : Value) (l0 l1 l2 l3 : List Int) (W : World) : Prop where
  T : TwoAt w.heap.size w A1 A2 F G s t W
  b : SqBlk W ob 36 q.kind q.mode [m0, m1, m2, m3] q.x q.y lv [v0, v1, v2, v3]
  oF : ¬ F ob
  oG : ¬ G ob
  n : ∀ p ∈ [(lv, q.large), (v0, l0), (v1, l1), (v2, l2), (v3, l3)], NOff p.1 p.2 W G
section
variable {σ τ : Type} {M : Mach σ} {N : Mach τ} {f1 f2 f3 f4 : FuncId} {e1 e2 : Value} {A1 : World → (Nat → Prop) → σ → Prop} {A2 : World → (Nat → Prop) → τ → Prop} {O1 : σ → Nat → Prop} {O2 : τ → Nat → Prop}
variable {w W W' : World} {F G G' : Nat → Prop} {s : σ} {t t' : τ} {ob : Nat} {q : SqS} {m0 m1 m2 m3 : Int} {lv v0 v1 v2 v3 : Value} {l0 l1 l2 l3 : List Int}
theorem KQ.below (H1 : IsCoder M f1 f2 e1 A1 O1) (H2 : IsCoder N f3 f4 e2 A2 O2) (h : KQ w A1 A2 F G s t ob q m0 m1 m2 m3 lv v0 v1 v2 v3 l0 l1 l2 l3 W) (hb : Below W.heap.size W W') : KQ w A1 A2 F G s t ob q m0 m1 m2 m3 lv v0 v1 v2 v3 l0 l1 l2 l3 W' :=
  ⟨h.T.below H1 H2 hb, h.b.below hb, h.oF, h.oG, fun p hp => (h.n p hp).below hb⟩
theorem KQ.right (H1 : IsCoder M f1 f2 e1 A1 O1) (h : KQ w A1 A2 F G s t ob q m0 m1 m2 m3 lv v0 v1 v2 v3 l0 l1 l2 l3 W) (c : CW A2 W G t' W' G') : KQ w A1 A2 F G' s t' ob q m0 m1 m2 m3 lv v0 v1 v2 v3 l0 l1 l2 l3 W' :=
  ⟨h.T.rightC H1 c, h.b.keep c.o h.oG, h.oF, fun e => by
    rcases c.f ob e with e | e
    · exact h.oG e
    · have := h.b.lt; omega, fun p hp => (h.n p hp).moved c.o c.f⟩
end
end Go.Proofs.YtkkgpdejmcpcpaaGreatDoor

/- Chapter 20: how many levels a square has. -/
namespace Go.Proofs.YtkkgpdejmcpcpaaGreatDoor
open Go.RowKit

def sumL : List Nat → Nat
  | [] => 0
  | n :: r => min n 20001 + sumL r
set_option maxRecDepth 100000 in
set_option maxHeartbeats 2000000 in
theorem weighs_any (k mode m0 m1 m2 m3 x y : Int) (A0 A1 A2 A3 A4 : Option Addr) (n0 n1 n2 n3 n4 c0 c1 c2 c3 c4 : Nat) (w : World)
    (h0 : n0 ≤ maxLen) (h1 : n1 ≤ maxLen) (h2 : n2 ≤ maxLen) (h3 : n3 ≤ maxLen) (h4 : n4 ≤ maxLen) :
    Calls Tryz.prog 28 #[sqV k mode m0 m1 m2 m3 x y (.slice A0 n0 c0) (.slice A1 n1 c1) (.slice A2 n2 c2) (.slice A3 n3 c3) (.slice A4 n4 c4)] w fun e w' => e = .returned (.int .i64 (sumL [n0, n1, n2, n3, n4] : Nat)) ∧ Below w.heap.size w w' := by
  unfold sqV
  have hb1 : Below w.heap.size w (w.alloc (.cells #[.int .i64 k, .int .i64 mode, .int .i64 m0, .int .i64 m1, .int .i64 m2, .int .i64 m3, .int .i64 x, .int .i64 y, .slice A0 n0 c0, .slice A1 n1 c1, .slice A2 n2 c2, .slice A3 n3 c3, .slice A4 n4 c4] 36)) := (Below.refl _ _).alloc (Nat.le_refl _) _
  have B1 := hid hb1
  have HK := hid (Blk.new w 36 #[.int .i64 k, .int .i64 mode, .int .i64 m0, .int .i64 m1, .int .i64 m2, .int .i64 m3, .int .i64 x, .int .i64 y, .slice A0 n0 c0, .slice A1 n1 c1, .slice A2 n2 c2, .slice A3 n3 c3, .slice A4 n4 c4])
  clear hb1
  unfold maxLen at h0 h1 h2 h3 h4
  have i0 : (n0 : Int) ≤ 9223372036854775807 := by omega
  have i1 : (n1 : Int) ≤ 9223372036854775807 := by omega
  have i2 : (n2 : Int) ≤ 9223372036854775807 := by omega
  have i3 : (n3 : Int) ≤ 9223372036854775807 := by omega
  have i4 : (n4 : Int) ≤ 9223372036854775807 := by omega
  have TOT := hid (show sumL [n0, n1, n2, n3, n4] = min n0 20001 + sumL ([n1, n2, n3, n4].drop 0) from rfl)
  generalize sumL [n0, n1, n2, n3, n4] = tot at *
  clear h0 h1 h2 h3 h4
  go_enter Tryz.func28, Tryz.ntmps28
  go_wp2_with fail
  generalize hw1 : w.alloc (.cells #[.int .i64 k, .int .i64 mode, .int .i64 m0, .int .i64 m1, .int .i64 m2, .int .i64 m3, .int .i64 x, .int .i64 y, .slice A0 n0 c0, .slice A1 n1 c1, .slice A2 n2 c2, .slice A3 n3 c3, .slice A4 n4 c4] 36) = w1 at *
  clear hw1
  have d9 : w1.cell? ⟨w.heap.size, 9, none⟩ = some (.slice A1 n1 c1) := by simpa using HK.out.cell 9
  have d10 : w1.cell? ⟨w.heap.size, 10, none⟩ = some (.slice A2 n2 c2) := by simpa using HK.out.cell 10
  have d11 : w1.cell? ⟨w.heap.size, 11, none⟩ = some (.slice A3 n3 c3) := by simpa using HK.out.cell 11
  have d12 : w1.cell? ⟨w.heap.size, 12, none⟩ = some (.slice A4 n4 c4) := by simpa using HK.out.cell 12
  go_loopg [3, 4] 4 (fun j nv iv wr => ∃ i n : Nat, i + j = 4 ∧ iv = .int .i64 i ∧ nv = .int .i64 n ∧ n ≤ 20001 * (i + 1) ∧ w1 = wr ∧ tot = n + sumL ([n1, n2, n3, n4].drop i))
  case atStart => exact ⟨0, min n0 20001, by omega, rfl, by go_num, by omega, rfl, TOT.out⟩
  case round =>
    obtain ⟨i, n, hij, rfl, rfl, hn, rfl, hq⟩ := hrel
    have HQ := hid (And.intro hij (And.intro hq hn))
    have hnb : (0 : Int) ≤ (n : Int) ∧ (n : Int) ≤ 2000000 := by omega
    have hci : i = 4 ∨ i = 0 ∨ i = 1 ∨ i = 2 ∨ i = 3 := by omega
    clear hij hq hn
    rcases hci with rfl | rfl | rfl | rfl | rfl
    · go_wp2_with fail
      go_ret
      refine ⟨?_, B1.out⟩
      rw [HQ.out.2.1]
      rfl
    all_goals
      go_wp2_with fail
      go_roundg (gk - 1)
      case measure => have := HQ.out.1; omega
      case rel =>
        first
          | exact ⟨1, n + min n1 20001, by have := HQ.out.1; omega, by go_num, by go_num, by have := HQ.out.2.2; omega, rfl, by rw [HQ.out.2.1, Nat.add_assoc]; rfl⟩
          | exact ⟨2, n + min n2 20001, by have := HQ.out.1; omega, by go_num, by go_num, by have := HQ.out.2.2; omega, rfl, by rw [HQ.out.2.1, Nat.add_assoc]; rfl⟩
          | exact ⟨3, n + min n3 20001, by have := HQ.out.1; omega, by go_num, by go_num, by have := HQ.out.2.2; omega, rfl, by rw [HQ.out.2.1, Nat.add_assoc]; rfl⟩
          | exact ⟨4, n + min n4 20001, by have := HQ.out.1; omega, by go_num, by go_num, by have := HQ.out.2.2; omega, rfl, by rw [HQ.out.2.1, Nat.add_assoc]; rfl⟩
end Go.Proofs.YtkkgpdejmcpcpaaGreatDoor

/- Chapter 14: lists of lists: few; a list copied. -/
namespace Go.Proofs.YtkkgpdejmcpcpaaGreatDoor
open Go.RowKit

theorem nums_of_els {w : World} {x : Value} {l : List Int} (h : Els w 1 IntR x l) : Nums w x l := by
  obtain ⟨A, c, h1, h2, h3⟩ := h
  refine ⟨A, c, h1, h2, fun h0 => ?_⟩
  obtain ⟨b, off, h4, h5, h6⟩ := h3 h0
  refine ⟨b, off, h4, h5, fun i v hv => ?_⟩
  obtain ⟨cs, _, ⟨rfl, _⟩, h8⟩ := h6 i v hv
  simpa using h8 0 _ rfl
/-- A list of the argument, as it lies. -/
theorem ints_at {w : World} {A : Option Addr} {n c : Nat} {l : List (List Int)} (h : Els w 1 (IntsR w) (.slice A n c) l) {i : Nat} {zs : List Int} (hz : l[i]? = some zs) :
    ∃ b off A' c', A = some ⟨b, off, none⟩ ∧ b < w.heap.size ∧ w.cell? ⟨b, off + i, none⟩ = some (.slice A' zs.length c') ∧ Nums w (.slice A' zs.length c') zs ∧ zs.length ≤ maxLen := by
  obtain ⟨b, off, cs, e, hb, _, ⟨v, rfl, hE, hm⟩, hc⟩ := Els.at_ h hz
  obtain ⟨A', c', rfl, _⟩ := Els.form hE
  exact ⟨b, off, A', c', e, hb, by simpa using hc 0 _ rfl, nums_of_els hE, hm⟩
theorem one_intV (l : List Int) : ∀ u ∈ l.map intV, u.oneCell' = true := by
  intro u hu
  obtain ⟨z, _, rfl⟩ := List.mem_map.1 hu
  rfl
theorem copy_ints (x : Value) (l : List Int) (w : World) (hx : Nums w x l) (hl : l.length ≤ 1000000) :
    Calls Tryz.prog 31 #[x] w fun e w' => ∃ g cap, e = .returned (.slice (some ⟨g, 0, none⟩) l.length cap) ∧ w'.ownsRow w.heap.size 3 1 (.slice (some ⟨g, 0, none⟩) l.length cap) l.length (l.map intV) ∧ Below w.heap.size w w' := by
  obtain ⟨i0, hi0, hz0, hz1, hz2⟩ := info_parts info_int1
  have hfrom := (hx.below ((Below.refl w.heap.size w).alloc (Nat.le_refl _) (.cells #[] 3))).from_
  have F := hid hfrom
  clear hfrom hx
  go_enter Tryz.func31, Tryz.ntmps31
  go_wp2_with (at_builtin; refine wpList_append_form _ rfl _ _ _ rfl w.heap.size 3 i0 (.int .i64 0) 1 8 Tryz.underlying33 hi0 hz0 hz1 hz2 rfl (by omega) (.slice (some ⟨w.heap.size, 0, none⟩) 0 0) 0 [] rfl (World.ownsRow_lit w #[] 0 (Nat.le_refl _) (by unfold maxLen; omega) rfl) x l.length (l.map intV) rfl F.out (one_intV l) (.inl (by simp [Value.ownBlock])) (by unfold maxLen; omega) (by omega) (by simp) l.length (l.map intV) (by simp) (by simp) ?_; intro g cap w1 hown hgrow hat hlt)
  have hb : Below w.heap.size w w1 := ((Below.refl _ _).alloc (Nat.le_refl _) _).grown hgrow (by simp) (fun k hk => by simp [Value.ownBlock] at hk; omega)
  go_ret
  exact ⟨g, cap, rfl, hown, hb⟩
end Go.Proofs.YtkkgpdejmcpcpaaGreatDoor

