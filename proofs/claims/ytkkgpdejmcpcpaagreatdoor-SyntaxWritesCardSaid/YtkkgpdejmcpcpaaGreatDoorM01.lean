/- Parts: XMem, XAppend, XCommon, XUSpec. -/
import Derived.WalkKit
import Derived.Below
import Derived.Deep.Draws
import Derived.Laws.OwnMore
import Derived.Laws.Rows
import Derived.Laws.BitsAllLaws
import Derived.Maps.AppendAt
import Derived.Deep.AppendLies
import Derived.RegionTactic
import Derived.OwnWalk
import Derived.Test.YtkkgpdejmcpcpaaGreatDoorProg
import Derived.Deep.LoopGhost
import Derived.Laws.IdiomStrings
import Derived.Laws.BytesArg
/- Memory words: a block known whole, a world of which only named blocks have turned, a slice that reads as a list. -/
namespace Go.Proofs.YtkkgpdejmcpcpaaGreatDoor
open Go.RowKit

theorem hid {p : Prop} (h : p) : Hid p := h

theorem wu64 {n : Int} (h0 : 0 ≤ n) (h1 : n ≤ 1152921504606846976) : IntKind.u64.wrap n = n := by
  simp only [IntKind.wrap]
  show n % 18446744073709551616 = n
  omega
theorem sub_u64 {a b : Nat} (h : b ≤ a) (ha : a ≤ 1099511627776) : IntKind.u64.wrap ((a : Int) - (b : Int)) = ((a - b : Nat) : Int) := by
  rw [wu64 (by omega) (by omega)]; omega

theorem shl8_u64 {a : Nat} (ha : a ≤ 1099511627776) : IntKind.u64.wrap ((a : Int) * 256) = ((a * 256 : Nat) : Int) := by
  rw [wu64 (by omega) (by omega)]; omega

theorem or8_u64 {a v : Nat} (ha : a ≤ 1099511627776) (hv : v < 256) : bits .or .u64 ((a : Int) * 256) (v : Int) = (a : Int) * 256 + (v : Int) := by
  have h : bits .or .u64 ((a * 256 : Nat) : Int) (v : Int) = ((a * 256 ||| v : Nat) : Int) := u64_or_nat _ _ (by omega) (by omega)
  have e : a * 256 ||| v = a * 256 + v := by
    have := Nat.shiftLeft_add_eq_or_of_lt (i := 8) (show v < 2 ^ 8 by omega) a
    rw [Nat.shiftLeft_eq] at this
    exact this.symm
  rw [e] at h
  simpa using h

theorem add_u64 {a b : Nat} (ha : a ≤ 1099511627776) (hb : b ≤ 1099511627776) : IntKind.u64.wrap ((a : Int) + (b : Int)) = ((a + b : Nat) : Int) := by
  rw [wu64 (by omega) (by omega)]; omega
theorem div_u64 {a : Nat} (c : Nat) (ha : a ≤ 1099511627776) : IntKind.u64.wrap ((a : Int) / (c : Int)) = ((a / c : Nat) : Int) := by
  have e : ((a : Int) / (c : Int)) = ((a / c : Nat) : Int) := by simp
  have := Nat.div_le_self a c
  rw [e]
  exact wu64 (Int.natCast_nonneg _) (by generalize a / c = q at *; omega)
theorem wu8 (n : Nat) : IntKind.u8.wrap (n : Int) = ((n % 256 : Nat) : Int) := by
  simp only [IntKind.wrap]
  show (n : Int) % 256 = _
  simp
theorem and32_u64 {a : Nat} (ha : a ≤ 1099511627776) : bits .and .u64 (a : Int) 4294967295 = ((a % 4294967296 : Nat) : Int) := by
  have h : bits .and .u64 (a : Int) ((4294967295 : Nat) : Int) = ((a &&& 4294967295 : Nat) : Int) := u64_and_nat _ _ (by omega) (by omega)
  have e : a &&& 4294967295 = a % 4294967296 := Nat.and_two_pow_sub_one_eq_mod a 32
  rw [e] at h
  exact h

/-- The world under a name: only what R says of it is kept. -/
theorem wp_named {P : Program} {c : Code} {Q : Exit → Act → World → Prop} {a : Act} {w : World} (R : World → Prop) (h : R w) (k : ∀ W, R W → Code.wp P c Q a W) : Code.wp P c Q a w := k w h

/-- Block g is just these cells of element type t; none is frozen. -/
def Blk (w : World) (g : Nat) (t : TypeId) (cs : Array Value) : Prop := w.heap[g]? = some (.cells cs t (0, 0))

/-- Of what was there in w only blocks of S have turned. -/
structure Only (S : Nat → Prop) (w w' : World) : Prop where
  os : w'.os = w.os
  tape : w'.tape = w.tape
  output : w'.output = w.output
  size : w.heap.size ≤ w'.heap.size
  block : ∀ k, k < w.heap.size → ¬ S k → w'.heap[k]? = w.heap[k]?

section
variable {w w' w'' : World} {g : Nat} {t : TypeId} {cs : Array Value} {S S' : Nat → Prop}

theorem Blk.lt (h : Blk w g t cs) : g < w.heap.size := (Array.getElem?_eq_some_iff.1 h).1
theorem Blk.cell (h : Blk w g t cs) (i : Nat) : w.cell? ⟨g, i, none⟩ = cs[i]? := cell_of_row w g i cs t (0, 0) h
theorem Blk.frozen (h : Blk w g t cs) (i : Nat) : w.frozen? ⟨g, i, none⟩ = false := by
  unfold Blk at h
  simp [World.frozen?, h]
theorem Blk.new (w : World) (t : TypeId) (cs : Array Value) : Blk (w.alloc (.cells cs t)) w.heap.size t cs := heap_alloc_new w _
theorem Blk.drew (h : Blk w g t cs) : Blk w.drew g t cs := h
theorem Blk.drewN (h : Blk w g t cs) (n : Nat) : Blk (w.drewN n) g t cs := h
theorem Blk.alloc (h : Blk w g t cs) (o : Obj) : Blk (w.alloc o) g t cs := (Below.heap_alloc w o g h.lt).trans h
theorem Blk.put (h : Blk w g t cs) (i : Nat) (u : Value) : Blk (w.setCell ⟨g, i, none⟩ u) g t (cs.setIfInBounds i u) := by
  unfold Blk at h ⊢
  simp [World.setCell, Array.getElem?_modify, h]
theorem Blk.far (h : Blk w g t cs) {p : Addr} (hp : g ≠ p.block) (u : Value) : Blk (w.setCell p u) g t cs := (Below.heap_setCell w p u g hp).trans h
theorem Blk.keep (h : Blk w g t cs) (hb : Only S w w') (hg : ¬ S g) : Blk w' g t cs := (hb.block g h.lt hg).trans h
theorem Blk.same (h : Blk w g t cs) (hb : w'.heap[g]? = w.heap[g]?) : Blk w' g t cs := hb.trans h
theorem Blk.below {B : Nat} (h : Blk w g t cs) (hb : Below B w w') (hg : g < B) : Blk w' g t cs := (hb.block g hg).trans h
theorem Blk.uniq {t' : TypeId} {cs' : Array Value} (h : Blk w g t cs) (h' : Blk w g t' cs') : t = t' ∧ cs = cs' := by
  unfold Blk at h h'
  rw [h] at h'
  injection h' with h'
  injection h' with a b
  exact ⟨b, a⟩
theorem Blk.apart {g' : Nat} {t' : TypeId} {cs' : Array Value} (h : Blk w g t cs) (h' : Blk w g' t' cs') (hne : t ≠ t') : g ≠ g' := by
  rintro rfl
  exact hne (h.uniq h').1

theorem Only.refl (S : Nat → Prop) (w : World) : Only S w w := ⟨rfl, rfl, rfl, Nat.le_refl _, fun _ _ _ => rfl⟩
theorem Only.then (h : Only S w w') (k : Only S' w' w'') (hs : ∀ i, i < w.heap.size → S' i → S i) : Only S w w'' :=
  ⟨k.os.trans h.os, k.tape.trans h.tape, k.output.trans h.output, Nat.le_trans h.size k.size,
    fun i hi hn => (k.block i (Nat.lt_of_lt_of_le hi h.size) (fun hs' => hn (hs i hi hs'))).trans (h.block i hi hn)⟩
theorem Only.trans (h : Only S w w') (k : Only S w' w'') : Only S w w'' := h.then k fun _ _ hs => hs
theorem Only.mono (h : Only S w w') (hs : ∀ i, i < w.heap.size → S i → S' i) : Only S' w w' :=
  ⟨h.os, h.tape, h.output, h.size, fun i hi hn => h.block i hi (fun k => hn (hs i hi k))⟩
theorem Only.drew (h : Only S w w') : Only S w w'.drew := ⟨h.os, h.tape, h.output, h.size, h.block⟩
theorem Only.drewN (h : Only S w w') (n : Nat) : Only S w (w'.drewN n) := ⟨h.os, h.tape, h.output, h.size, h.block⟩
theorem Only.alloc (h : Only S w w') (o : Obj) : Only S w (w'.alloc o) :=
  ⟨h.os, h.tape, h.output, Nat.le_trans h.size (by simp), fun k hk hn => (Below.heap_alloc w' o k (Nat.lt_of_lt_of_le hk h.size)).trans (h.block k hk hn)⟩
theorem Only.setCell (h : Only S w w') {p : Addr} (hp : p.block < w.heap.size → S p.block) (u : Value) : Only S w (w'.setCell p u) :=
  ⟨h.os, h.tape, h.output, by simpa [World.setCell] using h.size, fun k hk hn => (Below.heap_setCell w' p u k (by
    rintro rfl
    exact hn (hp hk))).trans (h.block k hk hn)⟩
theorem Only.put (h : Only S w w') {b : Nat} (hp : S b) (i : Nat) (u : Value) : Only S w (w'.setCell ⟨b, i, none⟩ u) := h.setCell (fun _ => hp) u
theorem Only.grown {row : Option Nat} (h : Only S w w') (hg : w'.grownBy w'' row) (hr : ∀ k, row = some k → k < w.heap.size → S k) : Only S w w'' :=
  ⟨hg.os.trans h.os, hg.tape.trans h.tape, hg.output.trans h.output, Nat.le_trans h.size hg.size,
    fun k hk hn => (hg.block k (Nat.lt_of_lt_of_le hk h.size) (fun e => hn (hr k e.symm hk))).trans (h.block k hk hn)⟩
theorem Only.below (h : Only (fun k => g ≤ k) w w') (hg : w.heap.size ≤ g) : Below w.heap.size w w' :=
  ⟨h.os, h.tape, h.output, h.size, fun k hk => h.block k hk (by omega)⟩
theorem Only.of_below (h : Below w.heap.size w w') : Only S w w' := ⟨h.os, h.tape, h.output, h.size, fun k hk _ => h.block k hk⟩
theorem Only.cell (h : Only S w w') {p : Addr} (hp : p.block < w.heap.size) (hs : ¬ S p.block) : w'.cell? p = w.cell? p := World.cell?_of_block (w := w) (h.block p.block hp hs)
theorem Only.frozen (h : Only S w w') {p : Addr} (hp : p.block < w.heap.size) (hs : ¬ S p.block) : w'.frozen? p = w.frozen? p := World.frozen?_of_block (w := w) (h.block p.block hp hs)
end
end Go.Proofs.YtkkgpdejmcpcpaaGreatDoor

/- append onto an owned row, of whatever slice reads as a list (nil and empty let in). -/
namespace Go.Proofs.YtkkgpdejmcpcpaaGreatDoor
open Go.RowKit

/-- The slice x has m elements, whose cells are these. -/
def From (w : World) (size : Nat) (x : Value) (m : Nat) (news : List Value) : Prop :=
  ∃ A c, x = .slice A m c ∧ news.length = m * size ∧ (m ≠ 0 → ∃ ad : Addr, A = some ad ∧ ∀ (j : Nat) (u : Value), news[j]? = some u → w.cell? (ad.add j) = some u)

theorem From.of_own {w : World} {base size n : Nat} {e : TypeId} {v : Value} {xs : List Value} (h : w.ownsRow base e size v n xs) : From w size v n xs := by
  rcases h.2 with ⟨rfl, rfl⟩ | ⟨g, cap, cur, rfl, _⟩
  · exact ⟨none, 0, rfl, h.1, fun h => absurd rfl h⟩
  · exact ⟨some ⟨g, 0, none⟩, cap, rfl, h.1, fun _ => ⟨_, rfl, h.cells rfl⟩⟩

section
variable {P : Program} (w : World)
theorem run_append_from (base : Nat) (t ty e : TypeId) (i : TypeInfo) (z : Value) (size bytes : Nat) (ht : P.underlying t = some (.slice e)) (hi : P.info? e = some i) (hz : i.zero = some z)
    (hsize : i.size = size) (hby : i.bytes = bytes) (hzs : z.cells.size = size) (hsz : 0 < size)
    (v : Value) (n : Nat) (xs : List Value) (hown : w.ownsRow base e size v n xs)
    (x : Value) (m : Nat) (news : List Value) (hs : From w size x m news) (h1 : ∀ u ∈ news, u.oneCell' = true)
    (h63 : n + m ≤ maxLen) (hbytes : (n + m) * bytes ≤ 140737488355328) (hbase : base ≤ w.heap.size) :
    ∃ v' w', (Builtin.append_ #[t, t] ty #[v, x]).run P w = .ok v' w' ∧ w'.ownsRow base e size v' (n + m) (xs ++ news) ∧ w.grownBy w' v.ownBlock ∧
      (v'.ownBlock = v.ownBlock ∨ v'.ownBlock = some w.heap.size) := by
  obtain ⟨A, c, rfl, hl, hc⟩ := hs
  rcases A with _ | ad
  · have hm : m = 0 := by
      rcases Nat.eq_zero_or_pos m with h0 | h0
      · exact h0
      · obtain ⟨ad, h, _⟩ := hc (by omega)
        cases h
    subst hm
    have hn : news = [] := List.eq_nil_of_length_eq_zero (by simpa using hl)
    subst hn
    refine ⟨v, w, ?_, by simpa using hown, ⟨rfl, rfl, rfl, Nat.le_refl _, fun _ _ _ => rfl⟩, .inl rfl⟩
    rcases hown.2 with ⟨rfl, rfl⟩ | ⟨g, cap, cur, rfl, _, _, hnc, _⟩
    · simp [Builtin.append_, run_underlying ht, sizeOf, typeInfo, hi, Builtin.lenOf, Builtin.firstCells]
    · simp [Builtin.append_, run_underlying ht, sizeOf, typeInfo, hi, Builtin.lenOf, Builtin.firstCells, hnc, storeCells]
  · have hcells : ∀ (j : Nat) (u : Value), news[j]? = some u → w.cell? (ad.add j) = some u := by
      intro j u hu
      by_cases h0 : m = 0
      · subst h0
        have hn : news = [] := List.eq_nil_of_length_eq_zero (by simpa using hl)
        subst hn
        simp at hu
      · obtain ⟨ad', h, hc'⟩ := hc h0
        injection h with h
        subst h
        exact hc' j u hu
    obtain ⟨v', w', hrun, h2, h3, _, h5⟩ := run_append_own_at (P := P) w base t ty e i z size bytes ht hi hz hsize hby hzs hsz v n xs hown ad m c news hl hcells h1 h63 hbytes hbase
    exact ⟨v', w', hrun, h2, h3, h5⟩

theorem form_of_own {w' : World} {base n size g0 : Nat} {e : TypeId} {v v' : Value} {xs : List Value} {m : Nat} (hv : v.ownBlock ≠ none ∨ 0 < m) (h : w'.ownsRow base e size v' (n + m) xs) (hat : v'.ownBlock = v.ownBlock ∨ v'.ownBlock = some g0) :
    ∃ g cap, v' = .slice (some ⟨g, 0, none⟩) (n + m) cap ∧ (v.ownBlock = some g ∨ g = g0) ∧ g < w'.heap.size := by
  rcases h.2 with ⟨rfl, h0⟩ | ⟨g, cap, cur, rfl, _, hg, _⟩
  · rcases hv with hv | hv
    · rcases hat with h | h
      · exact absurd h.symm hv
      · cases h
    · omega
  · refine ⟨g, cap, rfl, ?_, (Array.getElem?_eq_some_iff.1 hg).1⟩
    rcases hat with h | h
    · exact .inl (by rw [← h]; rfl)
    · exact .inr (by simpa [Value.ownBlock] using h)

theorem wp_append_from {o : Oper} {a : Act} {K : Act → World → Prop} {Q : Exit → Act → World → Prop} (s x : Operand) (t : TypeId)
    (ho : o.op = .call { callee := .builtin .append, args := #[s, x], argTypes := #[t, t] })
    (base : Nat) (e : TypeId) (i : TypeInfo) (z : Value) (size bytes : Nat) (ht : P.underlying t = some (.slice e)) (hi : P.info? e = some i) (hz : i.zero = some z)
    (hsize : i.size = size) (hby : i.bytes = bytes) (hzs : z.cells.size = size) (hsz : 0 < size)
    (v : Value) (n : Nat) (xs : List Value) (hs : a.eval s = v) (hown : w.ownsRow base e size v n xs)
    (xv : Value) (m : Nat) (news : List Value) (hx : a.eval x = xv) (hr : From w size xv m news) (h1 : ∀ u ∈ news, u.oneCell' = true)
    (h63 : n + m ≤ maxLen) (hbytes : (n + m) * bytes ≤ 140737488355328) (hbase : base ≤ w.heap.size)
    (h : ∀ v' w', w'.ownsRow base e size v' (n + m) (xs ++ news) → w.grownBy w' v.ownBlock → (v'.ownBlock = v.ownBlock ∨ v'.ownBlock = some w.heap.size) → K (a.put o.dst v') w') : o.wp P a w K Q := by
  obtain ⟨v', w', hrun, h2, h3, h4⟩ := run_append_from (P := P) w base t o.type e i z size bytes ht hi hz hsize hby hzs hsz v n xs hown xv m news hr h1 h63 hbytes hbase
  unfold Oper.wp execOp
  simp only [ho, resolve, invoke, builtin, Sem.run_bind, Sem.run_pure, Result.andThen_ok, List.map_toArray, List.map_cons, List.map_nil, hs, hx, hrun]
  exact h v' w' h2 h3 h4

theorem wp_append_form {o : Oper} {a : Act} {K : Act → World → Prop} {Q : Exit → Act → World → Prop} (s x : Operand) (t : TypeId)
    (ho : o.op = .call { callee := .builtin .append, args := #[s, x], argTypes := #[t, t] })
    (base : Nat) (e : TypeId) (i : TypeInfo) (z : Value) (size bytes : Nat) (ht : P.underlying t = some (.slice e)) (hi : P.info? e = some i) (hz : i.zero = some z)
    (hsize : i.size = size) (hby : i.bytes = bytes) (hzs : z.cells.size = size) (hsz : 0 < size)
    (v : Value) (n : Nat) (xs : List Value) (hs : a.eval s = v) (hown : w.ownsRow base e size v n xs)
    (xv : Value) (m : Nat) (news : List Value) (hx : a.eval x = xv) (hr : From w size xv m news) (h1 : ∀ u ∈ news, u.oneCell' = true)
    (hv0 : v.ownBlock ≠ none ∨ 0 < m) (h63 : n + m ≤ maxLen) (hbytes : (n + m) * bytes ≤ 140737488355328) (hbase : base ≤ w.heap.size) (N : Nat) (L : List Value) (hN : n + m = N) (hL : xs ++ news = L)
    (h : ∀ g cap w', w'.ownsRow base e size (.slice (some ⟨g, 0, none⟩) N cap) N L → w.grownBy w' v.ownBlock → (v.ownBlock = some g ∨ g = w.heap.size) → g < w'.heap.size → K (a.put o.dst (.slice (some ⟨g, 0, none⟩) N cap)) w') : o.wp P a w K Q := by
  subst hN hL
  refine wp_append_from w s x t ho base e i z size bytes ht hi hz hsize hby hzs hsz v n xs hs hown xv m news hx hr h1 h63 hbytes hbase fun v' w' h2 h3 h4 => ?_
  obtain ⟨g, cap, rfl, h5, h6⟩ := form_of_own hv0 h2 h4
  exact h g cap w' h2 h3 h5 h6

theorem wpList_append_from {ops : Array Oper} {rest : List Oper} {o : Oper} {a : Act} {Q : Exit → Act → World → Prop} (hgd : o.guard = none) (s x : Operand) (t : TypeId)
    (ho : o.op = .call { callee := .builtin .append, args := #[s, x], argTypes := #[t, t] })
    (base : Nat) (e : TypeId) (i : TypeInfo) (z : Value) (size bytes : Nat) (ht : P.underlying t = some (.slice e)) (hi : P.info? e = some i) (hz : i.zero = some z)
    (hsize : i.size = size) (hby : i.bytes = bytes) (hzs : z.cells.size = size) (hsz : 0 < size)
    (v : Value) (n : Nat) (xs : List Value) (hs : a.eval s = v) (hown : w.ownsRow base e size v n xs)
    (xv : Value) (m : Nat) (news : List Value) (hx : a.eval x = xv) (hr : From w size xv m news) (h1 : ∀ u ∈ news, u.oneCell' = true)
    (h63 : n + m ≤ maxLen) (hbytes : (n + m) * bytes ≤ 140737488355328) (hbase : base ≤ w.heap.size)
    (h : ∀ v' w', w'.ownsRow base e size v' (n + m) (xs ++ news) → w.grownBy w' v.ownBlock → (v'.ownBlock = v.ownBlock ∨ v'.ownBlock = some w.heap.size) → wpList P ops Q rest (a.put o.dst v') w') : wpList P ops Q (o :: rest) a w :=
  wpList_plain hgd fun _ hK => wp_append_from w s x t ho base e i z size bytes ht hi hz hsize hby hzs hsz v n xs hs hown xv m news hx hr h1 h63 hbytes hbase fun v' w' h2 h3 h4 => hK _ _ (h v' w' h2 h3 h4)

theorem wpList_append_form {ops : Array Oper} {rest : List Oper} {o : Oper} {a : Act} {Q : Exit → Act → World → Prop} (hgd : o.guard = none) (s x : Operand) (t : TypeId)
    (ho : o.op = .call { callee := .builtin .append, args := #[s, x], argTypes := #[t, t] })
    (base : Nat) (e : TypeId) (i : TypeInfo) (z : Value) (size bytes : Nat) (ht : P.underlying t = some (.slice e)) (hi : P.info? e = some i) (hz : i.zero = some z)
    (hsize : i.size = size) (hby : i.bytes = bytes) (hzs : z.cells.size = size) (hsz : 0 < size)
    (v : Value) (n : Nat) (xs : List Value) (hs : a.eval s = v) (hown : w.ownsRow base e size v n xs)
    (xv : Value) (m : Nat) (news : List Value) (hx : a.eval x = xv) (hr : From w size xv m news) (h1 : ∀ u ∈ news, u.oneCell' = true)
    (hv0 : v.ownBlock ≠ none ∨ 0 < m) (h63 : n + m ≤ maxLen) (hbytes : (n + m) * bytes ≤ 140737488355328) (hbase : base ≤ w.heap.size) (N : Nat) (L : List Value) (hN : n + m = N) (hL : xs ++ news = L)
    (h : ∀ g cap w', w'.ownsRow base e size (.slice (some ⟨g, 0, none⟩) N cap) N L → w.grownBy w' v.ownBlock → (v.ownBlock = some g ∨ g = w.heap.size) → g < w'.heap.size → wpList P ops Q rest (a.put o.dst (.slice (some ⟨g, 0, none⟩) N cap)) w') : wpList P ops Q (o :: rest) a w :=
  wpList_plain hgd fun _ hK => wp_append_form w s x t ho base e i z size bytes ht hi hz hsize hby hzs hsz v n xs hs hown xv m news hx hr h1 hv0 h63 hbytes hbase N L hN hL fun g cap w' h2 h3 h4 h5 => hK _ _ (h g cap w' h2 h3 h4 h5)

theorem step_append_from {ops : Array Oper} {o : Oper} {a : Act} {K : Act → World → Prop} {Q : Exit → Act → World → Prop} {E : Prop} (hgd : o.guard = none) (s x : Operand) (t : TypeId)
    (ho : o.op = .call { callee := .builtin .append, args := #[s, x], argTypes := #[t, t] })
    (base : Nat) (e : TypeId) (i : TypeInfo) (z : Value) (size bytes : Nat) (ht : P.underlying t = some (.slice e)) (hi : P.info? e = some i) (hz : i.zero = some z)
    (hsize : i.size = size) (hby : i.bytes = bytes) (hzs : z.cells.size = size) (hsz : 0 < size)
    (v : Value) (n : Nat) (xs : List Value) (hs : a.eval s = v) (hown : w.ownsRow base e size v n xs)
    (xv : Value) (m : Nat) (news : List Value) (hx : a.eval x = xv) (hr : From w size xv m news) (h1 : ∀ u ∈ news, u.oneCell' = true)
    (h63 : n + m ≤ maxLen) (hbytes : (n + m) * bytes ≤ 140737488355328) (hbase : base ≤ w.heap.size)
    (h : ∀ v' w', w'.ownsRow base e size v' (n + m) (xs ++ news) → w.grownBy w' v.ownBlock → (v'.ownBlock = v.ownBlock ∨ v'.ownBlock = some w.heap.size) → K (a.put o.dst v') w') :
    if Region.wanted o (yielded ops a.tmps) = true then Oper.wp P o a w K Q else E := by
  have hw : Region.wanted o (yielded ops a.tmps) = true := by simp [Region.wanted, hgd]
  rw [if_pos hw]
  exact wp_append_from w s x t ho base e i z size bytes ht hi hz hsize hby hzs hsz v n xs hs hown xv m news hx hr h1 h63 hbytes hbase h
theorem step_append_form {ops : Array Oper} {o : Oper} {a : Act} {K : Act → World → Prop} {Q : Exit → Act → World → Prop} {E : Prop} (hgd : o.guard = none) (s x : Operand) (t : TypeId)
    (ho : o.op = .call { callee := .builtin .append, args := #[s, x], argTypes := #[t, t] })
    (base : Nat) (e : TypeId) (i : TypeInfo) (z : Value) (size bytes : Nat) (ht : P.underlying t = some (.slice e)) (hi : P.info? e = some i) (hz : i.zero = some z)
    (hsize : i.size = size) (hby : i.bytes = bytes) (hzs : z.cells.size = size) (hsz : 0 < size)
    (v : Value) (n : Nat) (xs : List Value) (hs : a.eval s = v) (hown : w.ownsRow base e size v n xs)
    (xv : Value) (m : Nat) (news : List Value) (hx : a.eval x = xv) (hr : From w size xv m news) (h1 : ∀ u ∈ news, u.oneCell' = true)
    (hv0 : v.ownBlock ≠ none ∨ 0 < m) (h63 : n + m ≤ maxLen) (hbytes : (n + m) * bytes ≤ 140737488355328) (hbase : base ≤ w.heap.size) (N : Nat) (L : List Value) (hN : n + m = N) (hL : xs ++ news = L)
    (h : ∀ g cap w', w'.ownsRow base e size (.slice (some ⟨g, 0, none⟩) N cap) N L → w.grownBy w' v.ownBlock → (v.ownBlock = some g ∨ g = w.heap.size) → g < w'.heap.size → K (a.put o.dst (.slice (some ⟨g, 0, none⟩) N cap)) w') :
    if Region.wanted o (yielded ops a.tmps) = true then Oper.wp P o a w K Q else E := by
  have hw : Region.wanted o (yielded ops a.tmps) = true := by simp [Region.wanted, hgd]
  rw [if_pos hw]
  exact wp_append_form w s x t ho base e i z size bytes ht hi hz hsize hby hzs hsz v n xs hs hown xv m news hx hr h1 hv0 h63 hbytes hbase N L hN hL h
end
end Go.Proofs.YtkkgpdejmcpcpaaGreatDoor

/- What every seat shares: bytes as values; a copy of bytes; bytes held against one another; kinref.Fail. -/
namespace Go.Proofs.YtkkgpdejmcpcpaaGreatDoor
open Go.RowKit

def byteV (x : UInt8) : Value := .int .u8 (x.toNat : Nat)
theorem info_u8 : (Tryz.prog.info? 5).map (fun i => (i.zero, i.size, i.bytes)) = some (some (.int .u8 0), 1, 1) := by kernel_rfl
theorem from_block {W : World} {B : Nat} {cs : Array Value} {n : Nat} (h : Blk W B 5 cs) (hn : cs.size = n) : From W 1 (.slice (some ⟨B, 0, none⟩) n n) n cs.toList :=
  ⟨_, _, rfl, by simp [hn], fun _ => ⟨_, rfl, World.news_of_block h⟩⟩
theorem one_bytes (bs : List UInt8) : ∀ u ∈ bs.map byteV, u.oneCell' = true := by
  intro u hu
  obtain ⟨x, _, rfl⟩ := List.mem_map.1 hu
  rfl
set_option maxHeartbeats 400000 in
theorem copy_bytes (x : Value) (bs : List UInt8) (w : World) (hx : From w 1 x bs.length (bs.map byteV)) (hl : bs.length ≤ 1000000000000) :
    Calls Tryz.prog 48 #[x] w fun e w' => ∃ g cap, e = .returned (.slice (some ⟨g, 0, none⟩) bs.length cap) ∧ w'.ownsRow w.heap.size 5 1 (.slice (some ⟨g, 0, none⟩) bs.length cap) bs.length (bs.map byteV) ∧ Below w.heap.size w w' := by
  obtain ⟨i0, hi0, hz0, hz1, hz2⟩ := info_parts info_u8
  have X := hid hx
  clear hx
  have hfrom : From (w.alloc (.cells #[] 5)) 1 x bs.length (bs.map byteV) := by
    obtain ⟨A, c, h1, h2, h3⟩ := X.out
    refine ⟨A, c, h1, h2, fun h0 => ?_⟩
    obtain ⟨ad, h4, h5⟩ := h3 h0
    refine ⟨ad, h4, fun j u hu => ?_⟩
    have := h5 j u hu
    rw [World.cell?_alloc_lt _ _ _ (World.block_lt_of_cell? _ _ this)]
    exact this
  have F := hid hfrom
  clear hfrom
  go_enter Tryz.func48, Tryz.ntmps48
  go_wp2_with (at_builtin; refine wpList_append_form _ rfl _ _ _ rfl w.heap.size 5 i0 (.int .u8 0) 1 1 Tryz.underlying53 hi0 hz0 hz1 hz2 rfl (by omega) (.slice (some ⟨w.heap.size, 0, none⟩) 0 0) 0 [] rfl (World.ownsRow_lit w #[] 0 (Nat.le_refl _) (by unfold maxLen; omega) rfl) x bs.length (bs.map byteV) rfl F.out (one_bytes bs) (.inl (by simp [Value.ownBlock])) (by unfold maxLen; omega) (by omega) (by simp) bs.length (bs.map byteV) (by simp) (by simp) ?_; intro g cap w1 hown hgrow hat hlt)
  have hb : Below w.heap.size w w1 := ((Below.refl _ _).alloc (Nat.le_refl _) _).grown hgrow (by simp) (fun k hk => by simp [Value.ownBlock] at hk; omega)
  go_ret
  exact ⟨g, cap, rfl, hown, hb⟩
theorem conv_from {w : World} {x : Value} {bs : List UInt8} (h : From w 1 x bs.length (bs.map byteV)) : (convert 53 9 x).run Tryz.prog w = .ok (.string ⟨bs.toArray⟩) w := by
  obtain ⟨A, c, rfl, _, h2⟩ := h
  cases A with
  | none =>
    cases bs with
    | nil => exact run_convert_bytes_nil w _ _ Tryz.underlying53 Tryz.underlying5 _ _ _ Tryz.underlying9
    | cons a l =>
      obtain ⟨ad, h3, _⟩ := h2 (by simp)
      cases h3
  | some a =>
    refine run_convert_bytes_back w _ _ _ a c bs Tryz.underlying53 Tryz.underlying5 Tryz.underlying9 fun j hj => ?_
    obtain ⟨ad, h3, h4⟩ := h2 (by omega)
    injection h3 with h3
    subst h3
    exact h4 j _ (by simp [List.getElem?_eq_getElem hj, byteV])

theorem bytes_same {w : World} {x y : Value} {bs : List UInt8} (hx : From w 1 x bs.length (bs.map byteV)) (hy : From w 1 y bs.length (bs.map byteV)) :
    Calls Tryz.prog 15 #[x, y] w fun e w' => e = .returned (.bool true) ∧ w' = w := by
  have h1 := conv_from hx
  have h2 := conv_from hy
  obtain ⟨A, c, rfl, _⟩ := hx
  obtain ⟨A', c', rfl, _⟩ := hy
  go_enter Tryz.func15, Tryz.ntmps15
  go_wp2
  go_ret
  exact ⟨rfl, rfl⟩
set_option maxHeartbeats 400000 in
theorem fail_any (c : Int) (w : World) : Calls Tryz.prog 25 #[.int .i64 c] w fun e w' => e = .returned (.agg #[.int .i64 c, .slice none 0 0]) ∧ Below w.heap.size w w' := by
  go_enter Tryz.func25, Tryz.ntmps25
  go_wp2
  exact bodyPost_ret (v := .agg #[.int .i64 c, .slice none 0 0]) (by simp [results, Tryz.results25, go_sem]) rfl ⟨rfl, (Below.refl _ _).alloc (Nat.le_refl _) _⟩

end Go.Proofs.YtkkgpdejmcpcpaaGreatDoor

/- Chapter 4, plain: the sum, a unit as bytes, what is read. -/
namespace Go.Proofs.YtkkgpdejmcpcpaaGreatDoor

/-! ### The sum -/
def crcBit (c : Nat) : Nat := if c % 2 = 1 then (c / 2) ^^^ 3988292384 else c / 2
def crcBits : Nat → Nat → Nat
  | 0, c => c
  | k + 1, c => crcBit (crcBits k c)
def crcByte (c : Nat) (x : UInt8) : Nat := crcBits 8 (c ^^^ x.toNat)
def crcFrom (c : Nat) (bs : List UInt8) : Nat := bs.foldl crcByte c
def sumOf (bs : List UInt8) : Nat := 4294967295 ^^^ crcFrom 4294967295 bs
theorem crcBit_lt {c : Nat} (h : c < 4294967296) : crcBit c < 4294967296 := by
  unfold crcBit
  split
  · exact Nat.xor_lt_two_pow (n := 32) (by omega) (by omega)
  · omega
theorem crcBits_lt (k : Nat) {c : Nat} (h : c < 4294967296) : crcBits k c < 4294967296 := by
  induction k with
  | zero => exact h
  | succ k ih => exact crcBit_lt ih
theorem crcMix_lt {c : Nat} (h : c < 4294967296) (x : UInt8) : c ^^^ x.toNat < 4294967296 := Nat.xor_lt_two_pow (n := 32) h (by have := x.toNat_lt; omega)
theorem crcByte_lt {c : Nat} (h : c < 4294967296) (x : UInt8) : crcByte c x < 4294967296 := crcBits_lt 8 (crcMix_lt h x)
theorem crcFrom_lt (bs : List UInt8) : ∀ {c : Nat}, c < 4294967296 → crcFrom c bs < 4294967296 := by
  induction bs with
  | nil => intro c h; exact h
  | cons x bs ih => intro c h; exact ih (crcByte_lt h x)
theorem sumOf_lt (bs : List UInt8) : sumOf bs < 4294967296 := Nat.xor_lt_two_pow (n := 32) (by omega) (crcFrom_lt bs (by omega))
theorem crcFrom_append (c : Nat) (a b : List UInt8) : crcFrom c (a ++ b) = crcFrom (crcFrom c a) b := by unfold crcFrom; rw [List.foldl_append]

/-- The step is one to one: its upper bit tells the bit that fell off. -/
theorem crcBit_inj {a b : Nat} (ha : a < 4294967296) (hb : b < 4294967296) (h : crcBit a = crcBit b) : a = b := by
  have top : ∀ {c : Nat}, c < 4294967296 → c % 2 = 1 → 2147483648 ≤ (c / 2) ^^^ 3988292384 := by
    intro c hc _
    have hq : c / 2 < 2 ^ 31 := by omega
    have h1 : ((c / 2) ^^^ 3988292384).testBit 31 = true := by
      rw [Nat.testBit_xor, Nat.testBit_lt_two_pow hq]
      decide
    exact Nat.ge_two_pow_of_testBit h1
  unfold crcBit at h
  split at h <;> split at h
  · rename_i h1 h2
    have := congrArg (· ^^^ 3988292384) h
    simp only [Nat.xor_assoc, Nat.xor_self, Nat.xor_zero] at this
    omega
  · rename_i h1 h2
    have := top ha h1
    omega
  · rename_i h1 h2
    have := top hb h2
    omega
  · omega
theorem crcBits_inj (k : Nat) : ∀ {a b : Nat}, a < 4294967296 → b < 4294967296 → crcBits k a = crcBits k b → a = b := by
  induction k with
  | zero => intro a b _ _ h; exact h
  | succ k ih => intro a b ha hb h; exact ih ha hb (crcBit_inj (crcBits_lt k ha) (crcBits_lt k hb) h)
theorem xor_right {a b x : Nat} (h : a ^^^ x = b ^^^ x) : a = b := by
  have := congrArg (· ^^^ x) h
  simpa only [Nat.xor_assoc, Nat.xor_self, Nat.xor_zero] using this
theorem xor_left {a x y : Nat} (h : a ^^^ x = a ^^^ y) : x = y := by
  have := congrArg (a ^^^ ·) h
  simpa only [← Nat.xor_assoc, Nat.xor_self, Nat.zero_xor] using this
theorem crcByte_inj {a b : Nat} (ha : a < 4294967296) (hb : b < 4294967296) (x : UInt8) (h : crcByte a x = crcByte b x) : a = b :=
  xor_right (crcBits_inj 8 (crcMix_lt ha x) (crcMix_lt hb x) h)
theorem crcByte_byte {c : Nat} (hc : c < 4294967296) {x y : UInt8} (h : crcByte c x = crcByte c y) : x = y :=
  UInt8.toNat_inj.1 (xor_left (crcBits_inj 8 (crcMix_lt hc x) (crcMix_lt hc y) h))
theorem crcFrom_inj (bs : List UInt8) : ∀ {a b : Nat}, a < 4294967296 → b < 4294967296 → crcFrom a bs = crcFrom b bs → a = b := by
  induction bs with
  | nil => intro a b _ _ h; exact h
  | cons x bs ih => intro a b ha hb h; exact crcByte_inj ha hb x (ih (crcByte_lt ha x) (crcByte_lt hb x) h)
/-- One byte turned turns the sum. -/
theorem sumOf_turned (a b : List UInt8) (x y : UInt8) (h : sumOf (a ++ x :: b) = sumOf (a ++ y :: b)) : x = y := by
  have h0 : (4294967295 : Nat) < 4294967296 := by omega
  have ha := crcFrom_lt a h0
  have h1 := xor_left h
  rw [crcFrom_append, crcFrom_append] at h1
  have h3 : crcFrom (crcByte (crcFrom 4294967295 a) x) b = crcFrom (crcByte (crcFrom 4294967295 a) y) b := h1
  exact crcByte_byte ha (crcFrom_inj b (crcByte_lt ha x) (crcByte_lt ha y) h3)

/-! ### Numbers, the highest byte first -/
def be (l : List UInt8) : Nat := l.foldl (fun v x => v * 256 + x.toNat) 0
def three (n : Nat) : List UInt8 := [UInt8.ofNat (n / 65536), UInt8.ofNat (n / 256), UInt8.ofNat n]
def quad (n : Nat) : List UInt8 := [UInt8.ofNat (n / 16777216), UInt8.ofNat (n / 65536), UInt8.ofNat (n / 256), UInt8.ofNat n]
theorem be_three {n : Nat} (h : n < 16777216) : be (three n) = n := by simp [be, three]; omega
theorem be_quad {n : Nat} (h : n < 4294967296) : be (quad n) = n := by simp [be, quad]; omega
theorem be3 (a b c : UInt8) : be [a, b, c] = a.toNat * 65536 + b.toNat * 256 + c.toNat := by simp [be]; omega
theorem be4 (a b c d : UInt8) : be [a, b, c, d] = a.toNat * 16777216 + b.toNat * 65536 + c.toNat * 256 + d.toNat := by simp [be]; omega

/-! ### A unit -/
structure UnitS where
  kind : Nat
  data : List UInt8
  at_ : Nat
  end_ : Nat
deriving DecidableEq
/-- The bytes ahead of the sum. -/
def unitHd (k : Nat) (d : List UInt8) : List UInt8 := UInt8.ofNat k :: three d.length ++ d
def unitBytes (k : Nat) (d : List UInt8) : List UInt8 := if k = 0 then [0] else unitHd k d ++ quad (sumOf (unitHd k d))
/-- Why no unit is made; 0: it is. -/
def makeNo (k : Int) (n : Nat) : Int := if k < 0 ∨ 255 < k ∨ (k = 0 ∧ 0 < n) then 13 else if 65536 < n then 5 else 0
/-- What is read of the bytes from a place on: why it is none (a code); or kind, data, how many bytes. -/
inductive ReadR where
  | no (c : Nat)
  | fill
  | unit (k : Nat) (d : List UInt8)
def readU : List UInt8 → ReadR
  | 0 :: _ => .fill
  | k :: a :: b :: c :: r =>
    let n := be [a, b, c]
    if 65536 < n then .no 5
    else if r.length < n + 4 then .no 1
    else if be ((r.drop n).take 4) = sumOf (k :: a :: b :: c :: r.take n) then .unit k.toNat (r.take n) else .no 4
  | _ => .no 1
def ReadR.units (at_ : Nat) : ReadR → Option UnitS
  | .no _ => none
  | .fill => some ⟨0, [], at_, at_ + 1⟩
  | .unit k d => some ⟨k, d, at_, at_ + d.length + 8⟩
def ReadR.code : ReadR → Nat
  | .no c => c
  | _ => 0
theorem readU_made {k : Nat} {d : List UInt8} (hk : 1 ≤ k ∧ k ≤ 255) (hd : d.length ≤ 65536) (r : List UInt8) : readU (unitBytes k d ++ r) = .unit k d := by
  have hk0 : k ≠ 0 := by omega
  have hkb : UInt8.ofNat k ≠ 0 := by
    intro h
    have := congrArg UInt8.toNat h
    simp at this
    omega
  have e : unitBytes k d ++ r = UInt8.ofNat k :: UInt8.ofNat (d.length / 65536) :: UInt8.ofNat (d.length / 256) :: UInt8.ofNat d.length :: (d ++ (quad (sumOf (unitHd k d)) ++ r)) := by
    unfold unitBytes
    rw [if_neg hk0]
    simp [unitHd, three]
  rw [e]
  have hn : be [UInt8.ofNat (d.length / 65536), UInt8.ofNat (d.length / 256), UInt8.ofNat d.length] = d.length := be_three (n := d.length) (by omega)
  have hq : (quad (sumOf (unitHd k d))).length = 4 := rfl
  have hs : be (quad (sumOf (unitHd k d))) = sumOf (unitHd k d) := be_quad (sumOf_lt _)
  unfold readU
  split
  · rename_i h
    injection h with h
    exact absurd h hkb
  · rename_i h
    injection h with h1 h
    injection h with h2 h
    injection h with h3 h
    injection h with h4 h
    subst h1 h2 h3 h4 h
    simp only [hn]
    rw [if_neg (by omega), if_neg (by simp [hq]), List.take_left, List.drop_left, List.take_append_of_le_length (by rw [hq]; omega), List.take_of_length_le (by rw [hq]; omega), hs, if_pos (by simp [unitHd, three])]
    simp
    omega
  · rename_i h1 h2
    exact absurd rfl (h2 _ _ _ _ _)
theorem readU_fill (r : List UInt8) : readU (0 :: r) = .fill := rfl
end Go.Proofs.YtkkgpdejmcpcpaaGreatDoor

