/- Memory words: a block known whole, a world of which only named blocks have turned, a slice that reads as a list. -/
import Derived.WalkKit
import Derived.Below
import Derived.Deep.Draws
import Derived.Laws.OwnMore
import Derived.Laws.Rows
import Derived.Laws.BitsAllLaws
namespace Go.Proofs.YtnlfnknkiggejaaDoor
open Go.RowKit

theorem hid {p : Prop} (h : p) : Hid p := h

theorem wu64 {n : Int} (h0 : 0 ≤ n) (h1 : n ≤ 1152921504606846976) : IntKind.u64.wrap n = n := by
  simp only [IntKind.wrap]
  show n % 18446744073709551616 = n
  omega
theorem sub_u64 {a b : Nat} (h : b ≤ a) (ha : a ≤ 1099511627776) : IntKind.u64.wrap ((a : Int) - (b : Int)) = ((a - b : Nat) : Int) := by
  rw [wu64 (by omega) (by omega)]; omega

theorem shl8_u64 {a : Nat} (ha : a ≤ 1099511627776) : IntKind.u64.wrap ((a : Int) * 256) = ((a * 256 : Nat) : Int) := by
  rw [wu64 (by omega) (by omega)]; omega

theorem or8_u64 {a v : Nat} (ha : a ≤ 1099511627776) (hv : v < 256) : bits .or .u64 ((a : Int) * 256) (v : Int) = (a : Int) * 256 + (v : Int) := by
  have h : bits .or .u64 ((a * 256 : Nat) : Int) (v : Int) = ((a * 256 ||| v : Nat) : Int) := u64_or_nat _ _ (by omega) (by omega)
  have e : a * 256 ||| v = a * 256 + v := by
    have := Nat.shiftLeft_add_eq_or_of_lt (i := 8) (show v < 2 ^ 8 by omega) a
    rw [Nat.shiftLeft_eq] at this
    exact this.symm
  rw [e] at h
  simpa using h

theorem add_u64 {a b : Nat} (ha : a ≤ 1099511627776) (hb : b ≤ 1099511627776) : IntKind.u64.wrap ((a : Int) + (b : Int)) = ((a + b : Nat) : Int) := by
  rw [wu64 (by omega) (by omega)]; omega
theorem div_u64 {a : Nat} (c : Nat) (ha : a ≤ 1099511627776) : IntKind.u64.wrap ((a : Int) / (c : Int)) = ((a / c : Nat) : Int) := by
  have e : ((a : Int) / (c : Int)) = ((a / c : Nat) : Int) := by simp
  have := Nat.div_le_self a c
  rw [e]
  exact wu64 (Int.natCast_nonneg _) (by generalize a / c = q at *; omega)
theorem wu8 (n : Nat) : IntKind.u8.wrap (n : Int) = ((n % 256 : Nat) : Int) := by
  simp only [IntKind.wrap]
  show (n : Int) % 256 = _
  simp
theorem and32_u64 {a : Nat} (ha : a ≤ 1099511627776) : bits .and .u64 (a : Int) 4294967295 = ((a % 4294967296 : Nat) : Int) := by
  have h : bits .and .u64 (a : Int) ((4294967295 : Nat) : Int) = ((a &&& 4294967295 : Nat) : Int) := u64_and_nat _ _ (by omega) (by omega)
  have e : a &&& 4294967295 = a % 4294967296 := Nat.and_two_pow_sub_one_eq_mod a 32
  rw [e] at h
  exact h

/-- The world under a name: only what R says of it is kept. -/
theorem wp_named {P : Program} {c : Code} {Q : Exit → Act → World → Prop} {a : Act} {w : World} (R : World → Prop) (h : R w) (k : ∀ W, R W → Code.wp P c Q a W) : Code.wp P c Q a w := k w h

/-- Block g is just these cells of element type t; none is frozen. -/
def Blk (w : World) (g : Nat) (t : TypeId) (cs : Array Value) : Prop := w.heap[g]? = some (.cells cs t (0, 0))

/-- Of what was there in w only blocks of S have turned. -/
structure Only (S : Nat → Prop) (w w' : World) : Prop where
  os : w'.os = w.os
  tape : w'.tape = w.tape
  output : w'.output = w.output
  size : w.heap.size ≤ w'.heap.size
  block : ∀ k, k < w.heap.size → ¬ S k → w'.heap[k]? = w.heap[k]?

section
variable {w w' w'' : World} {g : Nat} {t : TypeId} {cs : Array Value} {S S' : Nat → Prop}

theorem Blk.lt (h : Blk w g t cs) : g < w.heap.size := (Array.getElem?_eq_some_iff.1 h).1
theorem Blk.cell (h : Blk w g t cs) (i : Nat) : w.cell? ⟨g, i, none⟩ = cs[i]? := cell_of_row w g i cs t (0, 0) h
theorem Blk.frozen (h : Blk w g t cs) (i : Nat) : w.frozen? ⟨g, i, none⟩ = false := by
  unfold Blk at h
  simp [World.frozen?, h]
theorem Blk.new (w : World) (t : TypeId) (cs : Array Value) : Blk (w.alloc (.cells cs t)) w.heap.size t cs := heap_alloc_new w _
theorem Blk.drew (h : Blk w g t cs) : Blk w.drew g t cs := h
theorem Blk.drewN (h : Blk w g t cs) (n : Nat) : Blk (w.drewN n) g t cs := h
theorem Blk.alloc (h : Blk w g t cs) (o : Obj) : Blk (w.alloc o) g t cs := (Below.heap_alloc w o g h.lt).trans h
theorem Blk.put (h : Blk w g t cs) (i : Nat) (u : Value) : Blk (w.setCell ⟨g, i, none⟩ u) g t (cs.setIfInBounds i u) := by
  unfold Blk at h ⊢
  simp [World.setCell, Array.getElem?_modify, h]
theorem Blk.far (h : Blk w g t cs) {p : Addr} (hp : g ≠ p.block) (u : Value) : Blk (w.setCell p u) g t cs := (Below.heap_setCell w p u g hp).trans h
theorem Blk.keep (h : Blk w g t cs) (hb : Only S w w') (hg : ¬ S g) : Blk w' g t cs := (hb.block g h.lt hg).trans h
theorem Blk.same (h : Blk w g t cs) (hb : w'.heap[g]? = w.heap[g]?) : Blk w' g t cs := hb.trans h
theorem Blk.below {B : Nat} (h : Blk w g t cs) (hb : Below B w w') (hg : g < B) : Blk w' g t cs := (hb.block g hg).trans h
theorem Blk.uniq {t' : TypeId} {cs' : Array Value} (h : Blk w g t cs) (h' : Blk w g t' cs') : t = t' ∧ cs = cs' := by
  unfold Blk at h h'
  rw [h] at h'
  injection h' with h'
  injection h' with a b
  exact ⟨b, a⟩
theorem Blk.apart {g' : Nat} {t' : TypeId} {cs' : Array Value} (h : Blk w g t cs) (h' : Blk w g' t' cs') (hne : t ≠ t') : g ≠ g' := by
  rintro rfl
  exact hne (h.uniq h').1

theorem Only.refl (S : Nat → Prop) (w : World) : Only S w w := ⟨rfl, rfl, rfl, Nat.le_refl _, fun _ _ _ => rfl⟩
theorem Only.then (h : Only S w w') (k : Only S' w' w'') (hs : ∀ i, i < w.heap.size → S' i → S i) : Only S w w'' :=
  ⟨k.os.trans h.os, k.tape.trans h.tape, k.output.trans h.output, Nat.le_trans h.size k.size,
    fun i hi hn => (k.block i (Nat.lt_of_lt_of_le hi h.size) (fun hs' => hn (hs i hi hs'))).trans (h.block i hi hn)⟩
theorem Only.trans (h : Only S w w') (k : Only S w' w'') : Only S w w'' := h.then k fun _ _ hs => hs
theorem Only.mono (h : Only S w w') (hs : ∀ i, i < w.heap.size → S i → S' i) : Only S' w w' :=
  ⟨h.os, h.tape, h.output, h.size, fun i hi hn => h.block i hi (fun k => hn (hs i hi k))⟩
theorem Only.drew (h : Only S w w') : Only S w w'.drew := ⟨h.os, h.tape, h.output, h.size, h.block⟩
theorem Only.drewN (h : Only S w w') (n : Nat) : Only S w (w'.drewN n) := ⟨h.os, h.tape, h.output, h.size, h.block⟩
theorem Only.alloc (h : Only S w w') (o : Obj) : Only S w (w'.alloc o) :=
  ⟨h.os, h.tape, h.output, Nat.le_trans h.size (by simp), fun k hk hn => (Below.heap_alloc w' o k (Nat.lt_of_lt_of_le hk h.size)).trans (h.block k hk hn)⟩
theorem Only.setCell (h : Only S w w') {p : Addr} (hp : p.block < w.heap.size → S p.block) (u : Value) : Only S w (w'.setCell p u) :=
  ⟨h.os, h.tape, h.output, by simpa [World.setCell] using h.size, fun k hk hn => (Below.heap_setCell w' p u k (by
    rintro rfl
    exact hn (hp hk))).trans (h.block k hk hn)⟩
theorem Only.put (h : Only S w w') {b : Nat} (hp : S b) (i : Nat) (u : Value) : Only S w (w'.setCell ⟨b, i, none⟩ u) := h.setCell (fun _ => hp) u
theorem Only.grown {row : Option Nat} (h : Only S w w') (hg : w'.grownBy w'' row) (hr : ∀ k, row = some k → k < w.heap.size → S k) : Only S w w'' :=
  ⟨hg.os.trans h.os, hg.tape.trans h.tape, hg.output.trans h.output, Nat.le_trans h.size hg.size,
    fun k hk hn => (hg.block k (Nat.lt_of_lt_of_le hk h.size) (fun e => hn (hr k e.symm hk))).trans (h.block k hk hn)⟩
theorem Only.below (h : Only (fun k => g ≤ k) w w') (hg : w.heap.size ≤ g) : Below w.heap.size w w' :=
  ⟨h.os, h.tape, h.output, h.size, fun k hk => h.block k hk (by omega)⟩
theorem Only.of_below (h : Below w.heap.size w w') : Only S w w' := ⟨h.os, h.tape, h.output, h.size, fun k hk _ => h.block k hk⟩
theorem Only.cell (h : Only S w w') {p : Addr} (hp : p.block < w.heap.size) (hs : ¬ S p.block) : w'.cell? p = w.cell? p := World.cell?_of_block (w := w) (h.block p.block hp hs)
theorem Only.frozen (h : Only S w w') {p : Addr} (hp : p.block < w.heap.size) (hs : ¬ S p.block) : w'.frozen? p = w.frozen? p := World.frozen?_of_block (w := w) (h.block p.block hp hs)
end
end Go.Proofs.YtnlfnknkiggejaaDoor
