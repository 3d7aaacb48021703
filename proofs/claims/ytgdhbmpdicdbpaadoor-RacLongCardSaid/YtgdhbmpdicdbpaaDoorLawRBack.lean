/- RacBack: the plain law: a list of operations coded; what is not refused; it comes back. -/
import Derived.Test.YtgdhbmpdicdbpaaDoorLawCodes
import Derived.Test.YtgdhbmpdicdbpaaDoorLawSize
namespace Go.Proofs.YtgdhbmpdicdbpaaDoor

def opsOk (l : List Op12) : List Op12 := l.filter fun o => okP o.p
def encs (e : Enc) (l : List Op12) : Enc := l.foldl (fun e o => e.op o.p o.b) e
theorem Enc.op_no (e : Enc) (p : Int) (u : Bool) (h : okP p = false) : e.op p u = e := by
  have h' := of_decide_eq_false h
  unfold Enc.op
  rw [if_neg (by omega), if_neg (by omega)]
theorem encs_opsOk (l : List Op12) : ∀ e : Enc, encs e (opsOk l) = encs e l := by
  induction l with
  | nil => intro e; rfl
  | cons o l ih =>
    intro e
    unfold opsOk at *
    rw [List.filter_cons]
    split
    · exact ih _
    · rename_i h
      have := Enc.op_no e o.p o.b (by simpa using h)
      show encs e _ = encs (e.op o.p o.b) l
      rw [this]
      exact ih e
theorem encs_append (e : Enc) (l m : List Op12) : encs e (l ++ m) = encs (encs e l) m := by unfold encs; rw [List.foldl_append]
theorem encs_ok (l : List Op12) : ∀ {e : Enc} {n : Nat}, e.Ok n → (encs e l).Ok (n + 3 * l.length) := by
  induction l with
  | nil => intro e n h; exact h
  | cons o l ih =>
    intro e n h
    have := ih (Enc.op_ok h o.p o.b)
    rw [List.length_cons, show n + 3 * (l.length + 1) = n + 3 + 3 * l.length by omega]
    exact this
theorem Enc.op_fit {e : Enc} {n : Nat} (h : e.Fit) (ho : e.Ok n) (p : Int) (u : Bool) : (e.op p u).Fit ∧ Inside e (e.op p u) := by
  unfold Enc.op
  split
  · exact Enc.narrow_fit h _ (by have := ho.r0; omega) ho.r1 u
  · split
    · have := share_ok (p := p.toNat) ho.r0 (by omega) (by omega)
      exact Enc.narrow_fit h _ this.2 ho.r1 u
    · exact ⟨h, Inside.refl _⟩
theorem encs_fit (l : List Op12) : ∀ {e : Enc} {n : Nat}, e.Fit → e.Ok n → (encs e l).Fit ∧ Inside e (encs e l) := by
  induction l with
  | nil => intro e n h _; exact ⟨h, Inside.refl _⟩
  | cons o l ih =>
    intro e n h ho
    have h1 := Enc.op_fit h ho o.p o.b
    have h2 := ih h1.1 (Enc.op_ok ho o.p o.b)
    exact ⟨h2.1, h1.2.trans h2.2⟩
theorem Track.op {f e : Enc} {d : Dec} {n : Nat} (h : Track f d e) (hl : e.Fit) (ho : e.Ok n) (hf : 1 ≤ f.r) (p : Int) (hp : okP p = true) (u : Bool) (hi : Inside (e.op p u) f) :
    (d.op p).1 = u ∧ Track f (d.op p).2 (e.op p u) := by
  have hp' := of_decide_eq_true hp
  unfold Dec.op
  unfold Enc.op at hi ⊢
  rw [h.r]
  split
  · rename_i h0
    rw [if_pos h0] at hi
    exact h.narrow hl hf _ (by have := ho.r0; omega) ho.r1 u hi
  · rename_i h0
    rw [if_neg h0, if_pos (by omega)] at hi
    rw [if_pos (by omega), if_pos (by omega)]
    have := share_ok (p := p.toNat) ho.r0 (by omega) (by omega)
    exact h.narrow hl hf _ this.2 ho.r1 u hi
theorem RTrack.new (f : Enc) : Track f (Dec.new f.bytes) Enc.new := ⟨rfl, rfl, rfl, by show Go.Proofs.YtgdhbmpdicdbpaaDoor.pre f.bytes 4 + val [0, 0, 0, 0] = _; simp [val, valR]; rfl⟩
theorem REnc_new_V : Enc.new.V = 0 := by show val [0, 0, 0, 0] = 0; simp [val, valR]
theorem rfit_new : Enc.new.Fit := ⟨by show 0 ≤ _; omega, by rw [REnc_new_V]; show 0 + 4294967295 ≤ 256 ^ 4; omega⟩
/-- Of a list of operations that are not refused: behind i of them the decoder is in step. -/
structure RStep (l : List Op12) (i : Nat) (d : Dec) : Prop where
  tr : Track (encs Enc.new l) d (encs Enc.new (l.take i))
  ok : d.Ok (4 + 3 * i)
theorem RStep.new (l : List Op12) : RStep l 0 (Dec.new (encs Enc.new l).bytes) := ⟨RTrack.new _, dec_new_ok _⟩
theorem RStep.next {l : List Op12} {i : Nat} {d : Dec} {o : Op12} (h : RStep l i d) (ho : l[i]? = some o) (hp : okP o.p = true) : (d.op o.p).1 = o.b ∧ RStep l (i + 1) (d.op o.p).2 := by
  have hi : i < l.length := (List.getElem?_eq_some_iff.1 ho).1
  have hs : l.take (i + 1) = l.take i ++ [o] := by rw [List.take_add_one, ho]; rfl
  have he : encs Enc.new (l.take (i + 1)) = (encs Enc.new (l.take i)).op o.p o.b := by rw [hs, encs_append]; rfl
  have hok := encs_ok (n := 0) (l.take i) enc_new_ok
  have hfit := encs_fit (l.take i) rfit_new enc_new_ok
  have hall := encs_ok (n := 0) l enc_new_ok
  have hin : Inside (encs Enc.new (l.take (i + 1))) (encs Enc.new l) := by
    have h1 := encs_ok (n := 0) (l.take (i + 1)) enc_new_ok
    have h2 := encs_fit (l.take (i + 1)) rfit_new enc_new_ok
    have h3 := encs_fit (l.drop (i + 1)) h2.1 h1
    rw [← encs_append, List.take_append_drop] at h3
    exact h3.2
  rw [he] at hin
  have := h.tr.op hfit.1 hok (by have := hall.r0; omega) o.p hp o.b hin
  refine ⟨this.1, ?_, ?_⟩
  · rw [he]; exact this.2
  · rw [show 4 + 3 * (i + 1) = 4 + 3 * i + 3 by omega]
    exact Dec.op_ok h.ok o.p
theorem RStep.over {l : List Op12} {d : Dec} (h : RStep l l.length d) : d.at_ - d.bs.length = (encs Enc.new l).out.length + 4 - (encs Enc.new l).bytes.length := by
  rw [h.tr.bs, h.tr.at_, List.take_length]
  rfl
theorem opsOk_all {l : List Op12} {i : Nat} {o : Op12} (h : (opsOk l)[i]? = some o) : okP o.p = true := (List.mem_filter.1 (List.mem_of_getElem? h)).2
theorem opsOk_succ (l : List Op12) (j : Nat) (o : Op12) (h : l[j]? = some o) : opsOk (l.take (j + 1)) = opsOk (l.take j) ++ (if okP o.p = true then [o] else []) := by
  rw [List.take_add_one, h]
  unfold opsOk
  rw [List.filter_append]
  congr 1
  simp only [Option.toList_some, List.filter_cons, List.filter_nil]
theorem opsOk_len (l : List Op12) (j : Nat) : (opsOk (l.take j)).length ≤ j := Nat.le_trans (List.length_filter_le _ _) (by simp; omega)
theorem encs_take (l : List Op12) (j : Nat) (o : Op12) (h : l[j]? = some o) : encs Enc.new (l.take (j + 1)) = (encs Enc.new (l.take j)).op o.p o.b := by
  rw [List.take_add_one, h, encs_append]
  rfl
/-- The cells of operations. -/
def opCells (l : List Op12) : List Value := l.flatMap fun o => [.int .i64 o.p, .bool o.b]
theorem opCells_append (l m : List Op12) : opCells (l ++ m) = opCells l ++ opCells m := List.flatMap_append
theorem opCells_len (l : List Op12) : (opCells l).length = l.length * 2 := by
  induction l with
  | nil => rfl
  | cons o l ih => unfold opCells at *; rw [List.flatMap_cons, List.length_append, ih]; simp; omega
theorem opCells_at (l : List Op12) : ∀ (i : Nat) (o : Op12), l[i]? = some o → (opCells l)[i * 2]? = some (.int .i64 o.p) ∧ (opCells l)[i * 2 + 1]? = some (.bool o.b) := by
  induction l with
  | nil => intro i o h; simp at h
  | cons a l ih =>
    intro i o h
    have e : opCells (a :: l) = .int .i64 a.p :: .bool a.b :: opCells l := rfl
    rw [e]
    cases i with
    | zero =>
      simp at h
      subst h
      exact ⟨rfl, rfl⟩
    | succ i =>
      have := ih i o (by simpa using h)
      rw [show (i + 1) * 2 = i * 2 + 1 + 1 by omega]
      simpa using this
end Go.Proofs.YtgdhbmpdicdbpaaDoor
