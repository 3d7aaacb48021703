/- Chapter 26: Scan, the program's and the document's; first; Same; LogScans. -/
import Derived.Test.YtabklmkdneoaaaaDoorGC
import Derived.Test.YtabklmkdneoaaaaDoorULawJoins
/- log.Scan: the walk. -/
namespace Go.Proofs.YtabklmkdneoaaaaDoor
open Go.RowKit

def recCells (rs : List RecS) : List Value := rs.flatMap RecS.cells
theorem recCells_snoc (rs : List RecS) (r : RecS) : recCells rs ++ [.int .i64 r.kind, .int .i64 r.sum, .int .i64 r.num, .int .i64 r.len, .int .i64 r.code] = recCells (rs ++ [r]) := by
  unfold recCells
  rw [List.flatMap_append]
  simp [RecS.cells]
theorem recCells_at (rs : List RecS) : ∀ (i : Nat) (r : RecS), rs[i]? = some r → (recCells rs)[i * 5]? = some (.int .i64 r.kind) ∧ (recCells rs)[i * 5 + 1]? = some (.int .i64 r.sum) ∧ (recCells rs)[i * 5 + 2]? = some (.int .i64 r.num) ∧ (recCells rs)[i * 5 + 3]? = some (.int .i64 r.len) ∧ (recCells rs)[i * 5 + 4]? = some (.int .i64 r.code) := by
  induction rs with
  | nil => intro i r h; simp at h
  | cons b rs ih =>
    intro i r h
    have e : recCells (b :: rs) = .int .i64 b.kind :: .int .i64 b.sum :: .int .i64 b.num :: .int .i64 b.len :: .int .i64 b.code :: recCells rs := rfl
    rw [e]
    cases i with
    | zero =>
      simp at h
      subst h
      exact ⟨rfl, rfl, rfl, rfl, rfl⟩
    | succ i =>
      have := ih i r (by simpa using h)
      rw [show (i + 1) * 5 = i * 5 + 1 + 1 + 1 + 1 + 1 by omega]
      simpa using this
theorem info_rec : (Tryd.prog.info? 73).map (fun i => (i.zero, i.size, i.bytes)) = some (some (.agg #[.int .i64 0, .int .i64 0, .int .i64 0, .int .i64 0, .int .i64 0]), 5, 40) := by kernel_rfl
theorem info_rrec : (Tryd.prog.info? 71).map (fun i => (i.zero, i.size, i.bytes)) = some (some (.agg #[.int .i64 0, .int .i64 0, .int .i64 0, .int .i64 0, .int .i64 0]), 5, 40) := by kernel_rfl
theorem blk_from5 {w : World} {g : Nat} {t : TypeId} {cs : Array Value} {c m : Nat} (h : Blk w g t cs) (hs : cs.size = m * 5) : From w 5 (.slice (some ⟨g, 0, none⟩) m c) m cs.toList := by
  refine ⟨_, _, rfl, by simpa using hs, fun _ => ⟨_, rfl, fun j u hu => ?_⟩⟩
  rw [addr_add, Nat.zero_add, h.cell]
  simpa using hu
/-- The records ahead, and where they end. -/
def scanR (bs : List UInt8) : Nat → Nat → List RecS × Nat
  | 0, n => ([], n)
  | k + 1, n => match nextU bs n with
    | .no _ _ => ([], n)
    | .ok u => if (parseR u.kind u.data).1 = 0 then ((parseR u.kind u.data).2 :: (scanR bs k u.end_).1, (scanR bs k u.end_).2) else ([], n)
def scanAll (bs : List UInt8) : List RecS × Nat := scanR bs bs.length 0
theorem nextU_end {bs : List UInt8} {n : Nat} (h : bs.length ≤ n) : nextU bs n = .no [] 7 := by
  unfold nextU
  rw [if_pos (by omega)]
theorem scanR_no {bs : List UInt8} {k n : Nat} {q : PathS} {c : Int} (hN : nextU bs n = .no q c) : scanR bs k n = ([], n) := by
  cases k with
  | zero => rfl
  | succ k => rw [scanR, hN]
theorem scanR_bad {bs : List UInt8} {k n : Nat} {u : UnitS} (hN : nextU bs n = .ok u) (hp : (parseR u.kind u.data).1 ≠ 0) : scanR bs k n = ([], n) := by
  cases k with
  | zero => rfl
  | succ k => rw [scanR, hN]; simp only; rw [if_neg hp]
theorem scanR_ok {bs : List UInt8} {k n : Nat} {u : UnitS} (hN : nextU bs n = .ok u) (hp : (parseR u.kind u.data).1 = 0) : scanR bs (k + 1) n = ((parseR u.kind u.data).2 :: (scanR bs k u.end_).1, (scanR bs k u.end_).2) := by
  rw [scanR, hN]; simp only; rw [if_pos hp]
/-- How far a scan has come. -/
structure ScanAt (bs : List UInt8) (k n : Nat) (rs : List RecS) : Prop where
  len : rs.length ≤ n
  in_ : n ≤ bs.length
  fuel : bs.length ≤ n + k
  all : scanAll bs = (rs ++ (scanR bs k n).1, (scanR bs k n).2)
theorem ScanAt.start (bs : List UInt8) : ScanAt bs bs.length 0 [] := ⟨by simp, by omega, by omega, rfl⟩
theorem ScanAt.no {bs : List UInt8} {k n : Nat} {rs : List RecS} {q : PathS} {c : Int} (h : ScanAt bs k n rs) (hN : nextU bs n = .no q c) : scanAll bs = (rs, n) := by
  rw [h.all, scanR_no hN]; simp
theorem ScanAt.bad {bs : List UInt8} {k n : Nat} {rs : List RecS} {u : UnitS} (h : ScanAt bs k n rs) (hN : nextU bs n = .ok u) (hp : (parseR u.kind u.data).1 ≠ 0) : scanAll bs = (rs, n) := by
  rw [h.all, scanR_bad hN hp]; simp
theorem nextU_ok_lt {bs : List UInt8} {n : Nat} {u : UnitS} (hN : nextU bs n = .ok u) : n < bs.length := by
  rcases Nat.lt_or_ge n bs.length with h | h
  · exact h
  · rw [nextU_end h] at hN; cases hN
theorem ScanAt.ok {bs : List UInt8} {k n : Nat} {rs : List RecS} {u : UnitS} (h : ScanAt bs k n rs) (hN : nextU bs n = .ok u) (hp : (parseR u.kind u.data).1 = 0) : 0 < k ∧ ScanAt bs (k - 1) u.end_ (rs ++ [(parseR u.kind u.data).2]) := by
  have hf := h.fuel
  have hn := nextU_ok_lt hN
  obtain ⟨m, rfl⟩ : ∃ m, k = m + 1 := ⟨k - 1, by omega⟩
  obtain ⟨h1, _⟩ := nextU_grows hN
  have h2 := (nextU_front (b := []) hn hN).2
  refine ⟨by omega, by have := h.len; simp; omega, h2, by simp; omega, ?_⟩
  rw [h.all, scanR_ok hN hp]
  simp
/-- A row of records of one's own, as Scan answers it. -/
def ScanRes (t : TypeId) (bs : List UInt8) (w : World) (e : Ending) (w' : World) : Prop :=
  ∃ lv, e = .returned (.tuple #[lv, .int .i64 (scanAll bs).2]) ∧ w'.ownsRow w.heap.size t 5 lv (scanAll bs).1.length (recCells (scanAll bs).1) ∧ Below w.heap.size w w'
set_option maxRecDepth 100000 in
set_option maxHeartbeats 4000000 in
theorem gscan_any (x : Value) (bs : List UInt8) (w : World) (hx : Byt w x bs) (hl : bs.length ≤ 1000000) : Calls Tryd.prog 64 #[x] w (ScanRes 73 bs w) := by
  obtain ⟨i0, hi0, hz0, hz1, hz2⟩ := info_parts info_rec
  have IP := hid (And.intro hi0 (And.intro hz0 (And.intro hz1 hz2)))
  clear hi0 hz0 hz1 hz2
  obtain ⟨A, c, rfl, hc⟩ := hx.form
  have X := hid hx
  have HL := hid hl
  clear hx hc hl
  go_enter Tryd.func64, Tryd.ntmps64
  go_wp2_with fail
  go_loopg [4, 5] bs.length (fun k lv iv wr => ∃ (n : Nat) (rs : List RecS), iv = .int .i64 n ∧ wr.ownsRow w.heap.size 73 5 lv rs.length (recCells rs) ∧ Below w.heap.size w wr ∧ ScanAt bs k n rs)
  case atStart => exact ⟨0, [], rfl, World.ownsRow_nil _ _ _ _, Below.refl _ _, ScanAt.start bs⟩
  case round =>
    obtain ⟨n, rs, rfl, hO, hB, hS⟩ := hrel
    have R := hid (And.intro hO (And.intro hB hS))
    have hrl : rs.length ≤ 1000000 := by have := hS.len; have := hS.in_; have := HL.out; omega
    have RL := hid hrl
    clear hO hB hS hrl
    go_wp2_with fail
    have hn1 := hid (next_any (.slice A bs.length c) bs n _ (X.out.below R.out.2.1) HL.out)
    unfold NextRes at hn1
    cases hN : nextU bs n with
    | no q cc =>
      have NO := hid hN
      rw [hN] at hn1
      clear hN
      refine hn1.out.mono ?_
      rintro e w2 ⟨v, rfl, hv, h2⟩
      obtain ⟨tv, xv, hform⟩ := hv.form
      subst hform
      have B2 := hid h2
      clear h2 hv hn1
      go_wp2_with fail
      go_ret2
      have hb := B2.out.trans (((Below.refl _ _).alloc (Nat.le_refl _) (.cells #[.int .i64 0, .slice none 0 0, .int .i64 0, .int .i64 0] 35)).mono B2.out.size)
      refine ⟨u4, ?_, ?_, R.out.2.1.trans (hb.mono R.out.2.1.size)⟩
      · rw [R.out.2.2.no NO.out]; rfl
      · rw [R.out.2.2.no NO.out]
        exact own_below R.out.1 hb
    | ok u =>
      have OK := hid hN
      rw [hN] at hn1
      clear hN
      refine hn1.out.mono ?_
      rintro e w2 ⟨d, rfl, ho, h2⟩
      obtain ⟨A2, c2, rfl⟩ := own_slice ho
      have B2 := hid (And.intro ho h2)
      clear h2 ho hn1
      have hba : Below w2.heap.size w2 (w2.alloc (.cells #[.int .i64 u.kind, .slice A2 u.data.length c2, .int .i64 u.at_, .int .i64 u.end_] 35)) := (Below.refl _ _).alloc (Nat.le_refl _) _
      have BA := hid (And.intro hba (Blk.new w2 35 #[.int .i64 u.kind, .slice A2 u.data.length c2, .int .i64 u.at_, .int .i64 u.end_]))
      clear hba
      go_wp2_with fail
      refine (gparse_any u.kind u.at_ u.end_ _ u.data _ ((Byt.of_own B2.out.1 rfl).below BA.out.1)).mono ?_
      rintro e w3 ⟨rfl, h3⟩
      have B3 := hid (And.intro (BA.out.1.trans (h3.mono BA.out.1.size)) (BA.out.2.below h3 BA.out.2.lt))
      have HP : Hid ((parseR (u.kind : Int) u.data) = (parseR (u.kind : Int) u.data)) := rfl
      clear h3 HP
      obtain ⟨p, hp⟩ : ∃ p, p = parseR (u.kind : Int) u.data := ⟨_, rfl⟩
      rw [← hp]
      have HP := hid hp
      clear hp
      obtain ⟨pc, ⟨pk, ps, pn, pl, pcd⟩⟩ := p
      by_cases hpc : pc = 0
      · subst hpc
        have hcv : codeV 0 = .nilIface := rfl
        unfold RecS.val
        dsimp only
        rw [hcv]
        have hz := And.intro R.out.2.1.size (And.intro B2.out.2.size B3.out.1.size)
        go_wp2_with (first
          | (at_builtin
             refine wpList_append_form _ rfl (.tmp 28) (.tmp 30) _ rfl w.heap.size 73 i0 (.agg #[.int .i64 0, .int .i64 0, .int .i64 0, .int .i64 0, .int .i64 0]) 5 40 Tryd.underlying68 IP.out.1 IP.out.2.1 IP.out.2.2.1 IP.out.2.2.2 rfl (by omega) u4 rs.length (recCells rs) rfl (by exact (((own_below (own_below R.out.1 B2.out.2) B3.out.1).alloc _).alloc _)) (.slice (some ⟨w3.heap.size + 1, 0, none⟩) 1 1) 1 [.int .i64 pk, .int .i64 ps, .int .i64 pn, .int .i64 pl, .int .i64 pcd] rfl (by exact blk_from5 (blk_new_at (w := w3.alloc (.cells #[.int .i64 pk, .int .i64 ps, .int .i64 pn, .int .i64 pl, .int .i64 pcd] 73)) (by simp) 73 #[.int .i64 pk, .int .i64 ps, .int .i64 pn, .int .i64 pl, .int .i64 pcd]) rfl) (by simp [Value.oneCell']) (.inr (by omega)) (by have := RL.out; unfold maxLen; omega) (by have := RL.out; omega) (by simp; omega) (rs.length + 1) (recCells (rs ++ [⟨pk, ps, pn, pl, pcd⟩])) rfl (recCells_snoc rs ⟨pk, ps, pn, pl, pcd⟩) ?_
             intro g cap w4 hown hgrow hat2 hlt1
             have hal : Below w3.heap.size w3 ((w3.alloc (.cells #[.int .i64 pk, .int .i64 ps, .int .i64 pn, .int .i64 pl, .int .i64 pcd] 73)).alloc (.cells #[.int .i64 pk, .int .i64 ps, .int .i64 pn, .int .i64 pl, .int .i64 pcd] 73)) := ((Below.refl _ _).alloc (Nat.le_refl _) _).alloc (by simp) _
             have hub := B3.out.2.below hal B3.out.2.lt
             have hne : u4.ownBlock ≠ some w2.heap.size := fun e => by have h1 := ((own_below R.out.1 B2.out.2).lt _ e).2; omega
             have hub4 := hub.same (hgrow.block w2.heap.size hub.lt (fun e => hne e.symm))
             have g3 := hub4.cell 3
             simp at g3
             have G3 := hid (And.intro hown (And.intro hgrow hal))
             clear hub hne hub4 hown hgrow hat2 hal))
        have hk0 := (R.out.2.2.ok OK.out (by rw [← HP.out])).1
        have hbel : Below w.heap.size w w4 := by
          have h1 := R.out.2.1.trans (B2.out.2.mono hz.1)
          have h2 := h1.trans (B3.out.1.mono h1.size)
          have h3 := h2.trans (G3.out.2.2.mono h2.size)
          exact h3.grown G3.out.2.1 h3.size (fun k hk => (R.out.1.lt k hk).1)
        have hsc := (R.out.2.2.ok OK.out (by rw [← HP.out])).2
        rw [← HP.out] at hsc
        have HREL := hid (And.intro hbel hsc)
        clear hbel hsc
        go_wp2_with fail
        go_roundg (gk - 1)
        case measure => omega
        case rel => exact ⟨u.end_, rs ++ [⟨pk, ps, pn, pl, pcd⟩], rfl, by simpa using G3.out.1, HREL.out.1, HREL.out.2⟩
      · have hcv : codeV pc = .iface 29 (.int .i64 pc) := by unfold codeV; rw [if_neg hpc]
        unfold RecS.val
        dsimp only
        rw [hcv]
        have HPC := hid hpc
        clear hpc hcv
        go_wp2_with fail
        go_ret2
        have hb1 := B2.out.2.trans (B3.out.1.mono B2.out.2.size)
        have hb := hb1.trans (((Below.refl _ _).alloc (Nat.le_refl _) (.cells #[.int .i64 pk, .int .i64 ps, .int .i64 pn, .int .i64 pl, .int .i64 pcd] 73)).mono hb1.size)
        have hbad := R.out.2.2.bad OK.out (by rw [← HP.out]; exact HPC.out)
        refine ⟨u4, ?_, ?_, R.out.2.1.trans (hb.mono R.out.2.1.size)⟩
        · rw [hbad]; rfl
        · rw [hbad]
          exact own_below R.out.1 hb
end Go.Proofs.YtabklmkdneoaaaaDoor
/- kinref26.Scan: the walk. -/
namespace Go.Proofs.YtabklmkdneoaaaaDoor
open Go.RowKit

set_option maxRecDepth 100000 in
set_option maxHeartbeats 4000000 in
theorem rscan_any (x : Value) (bs : List UInt8) (w : World) (hx : Byt w x bs) (hl : bs.length ≤ 1000000) : Calls Tryd.prog 65 #[x] w (ScanRes 71 bs w) := by
  obtain ⟨i0, hi0, hz0, hz1, hz2⟩ := info_parts info_rrec
  have IP := hid (And.intro hi0 (And.intro hz0 (And.intro hz1 hz2)))
  clear hi0 hz0 hz1 hz2
  obtain ⟨A, c, rfl, hc⟩ := hx.form
  have X := hid hx
  have HL := hid hl
  clear hx hc hl
  go_enter Tryd.func65, Tryd.ntmps65
  go_wp2_with fail
  go_loopg [4, 5] bs.length (fun k lv iv wr => ∃ (n : Nat) (rs : List RecS), iv = .int .i64 n ∧ wr.ownsRow w.heap.size 71 5 lv rs.length (recCells rs) ∧ Below w.heap.size w wr ∧ ScanAt bs k n rs)
  case atStart => exact ⟨0, [], rfl, World.ownsRow_nil _ _ _ _, Below.refl _ _, ScanAt.start bs⟩
  case round =>
    obtain ⟨n, rs, rfl, hO, hB, hS⟩ := hrel
    have R := hid (And.intro hO (And.intro hB hS))
    have hrl : rs.length ≤ 1000000 := by have := hS.len; have := hS.in_; have := HL.out; omega
    have RL := hid hrl
    clear hO hB hS hrl
    by_cases hlt : n < bs.length
    · have hn : decide (n < bs.length) = true := by simp; omega
      have hn0 : n < bs.length := hlt
      clear hlt
      go_wp2_with fail
      have hn1 := hid (rnext_any (.slice A bs.length c) bs n _ (X.out.below R.out.2.1) HL.out)
      unfold RNextRes at hn1
      cases hN : nextU bs n with
      | no q cc =>
        have NO := hid (And.intro hN (nextU_no hN))
        rw [hN] at hn1
        clear hN
        refine hn1.out.mono ?_
        rintro e w2 ⟨pv, rfl, hst, h2⟩
        obtain ⟨A9, c9, rfl, _⟩ := id hst
        have B2 := hid h2
        have h1 : (cc == 0) = false := by simpa using NO.out.2.1
        clear h2 hst hn1
        go_wp2_with fail
        refine (err_ok cc (.slice A9 q.length c9) _).mono ?_
        rintro e w4 ⟨rfl, h4⟩
        have hbb : Below w2.heap.size w2 w4 := (((Below.refl _ _).alloc (Nat.le_refl _) (.cells #[.int .i64 0, .slice none 0 0, .int .i64 0, .int .i64 0] 35)).alloc (by simp) (.cells #[.int .i64 cc, .slice A9 q.length c9] 32)).trans (h4.mono (by simp; omega))
        have hb := B2.out.trans (hbb.mono B2.out.size)
        have HB := hid hb
        clear h4 hbb hb
        go_wp2_with fail
        go_ret2
        refine ⟨u4, ?_, ?_, R.out.2.1.trans (HB.out.mono R.out.2.1.size)⟩
        · rw [R.out.2.2.no NO.out.1]; rfl
        · rw [R.out.2.2.no NO.out.1]
          exact own_below R.out.1 HB.out
      | ok u =>
        have OK := hid hN
        rw [hN] at hn1
        clear hN
        refine hn1.out.mono ?_
        rintro e w2 ⟨d, rfl, ho, h2⟩
        obtain ⟨A2, c2, rfl⟩ := own_slice ho
        have B2 := hid (And.intro ho h2)
        clear h2 ho hn1
        have hba : Below w2.heap.size w2 ((w2.alloc (.cells #[.int .i64 u.kind, .slice A2 u.data.length c2, .int .i64 u.at_, .int .i64 u.end_] 35)).alloc (.cells #[.int .i64 0, .slice none 0 0] 32)) := ((Below.refl _ _).alloc (Nat.le_refl _) _).alloc (by simp) _
        have BA := hid (And.intro hba ((Blk.new w2 35 #[.int .i64 u.kind, .slice A2 u.data.length c2, .int .i64 u.at_, .int .i64 u.end_]).alloc (.cells #[.int .i64 0, .slice none 0 0] 32)))
        clear hba
        go_wp2_with fail
        refine (err_ok 0 (.slice none 0 0) _).mono ?_
        rintro e w4 ⟨rfl, h4⟩
        have B4 := hid (And.intro (BA.out.1.trans (h4.mono BA.out.1.size)) (BA.out.2.below h4 BA.out.2.lt))
        clear h4
        have ub := B4.out.2
        have u0 := ub.cell 0
        have u1 := ub.cell 1
        have u2 := ub.cell 2
        have u3 := ub.cell 3
        simp at u0 u1 u2 u3
        clear ub
        go_wp2_with fail
        refine (rparse_any u.kind u.at_ u.end_ _ u.data _ ((Byt.of_own B2.out.1 rfl).below B4.out.1)).mono ?_
        rintro e w3 ⟨rfl, h3⟩
        have B3 := hid (And.intro (B4.out.1.trans (h3.mono B4.out.1.size)) (B4.out.2.below h3 B4.out.2.lt))
        clear h3 u0 u1 u2 u3
        obtain ⟨p, hp⟩ : ∃ p, p = parseR (u.kind : Int) u.data := ⟨_, rfl⟩
        rw [← hp]
        have HP := hid hp
        clear hp
        obtain ⟨pc, ⟨pk, ps, pn, pl, pcd⟩⟩ := p
        unfold RecS.val
        dsimp only
        have hz := And.intro R.out.2.1.size (And.intro B2.out.2.size B3.out.1.size)
        by_cases hpc : pc = 0
        · subst hpc
          go_wp2_with fail
          refine (err_ok 0 (.slice none 0 0) _).mono ?_
          rintro e w5 ⟨rfl, h5⟩
          have hal : Below w3.heap.size w3 ((w3.alloc (.cells #[.int .i64 pk, .int .i64 ps, .int .i64 pn, .int .i64 pl, .int .i64 pcd] 71)).alloc (.cells #[.int .i64 0, .slice none 0 0] 32)) := ((Below.refl _ _).alloc (Nat.le_refl _) _).alloc (by simp) _
          have hr5 := ((Blk.new w3 71 #[.int .i64 pk, .int .i64 ps, .int .i64 pn, .int .i64 pl, .int .i64 pcd]).alloc (.cells #[.int .i64 0, .slice none 0 0] 32)).below h5 (by simp; omega)
          have hb5 := hal.trans (h5.mono hal.size)
          have B5 := hid (And.intro hb5 (And.intro (B3.out.2.below hb5 B3.out.2.lt) hr5))
          have hz5 := hb5.size
          have t0 := hr5.cell 0
          have t1 := hr5.cell 1
          have t2 := hr5.cell 2
          have t3 := hr5.cell 3
          have t4 := hr5.cell 4
          simp at t0 t1 t2 t3 t4
          clear h5 hal hr5 hb5
          go_wp2_with (first
            | (at_builtin
               refine wpList_append_form _ rfl (.tmp 31) (.tmp 33) _ rfl w.heap.size 71 i0 (.agg #[.int .i64 0, .int .i64 0, .int .i64 0, .int .i64 0, .int .i64 0]) 5 40 Tryd.underlying69 IP.out.1 IP.out.2.1 IP.out.2.2.1 IP.out.2.2.2 rfl (by omega) u4 rs.length (recCells rs) rfl (by exact ((own_below (own_below (own_below R.out.1 B2.out.2) B3.out.1) B5.out.1).alloc _)) (.slice (some ⟨w5.heap.size, 0, none⟩) 1 1) 1 [.int .i64 pk, .int .i64 ps, .int .i64 pn, .int .i64 pl, .int .i64 pcd] rfl (by exact blk_from5 (Blk.new w5 71 #[.int .i64 pk, .int .i64 ps, .int .i64 pn, .int .i64 pl, .int .i64 pcd]) rfl) (by simp [Value.oneCell']) (.inr (by omega)) (by have := RL.out; unfold maxLen; omega) (by have := RL.out; omega) (by simp; omega) (rs.length + 1) (recCells (rs ++ [⟨pk, ps, pn, pl, pcd⟩])) rfl (recCells_snoc rs ⟨pk, ps, pn, pl, pcd⟩) ?_
               intro g cap w6 hown hgrow hat2 hlt1
               have hal : Below w5.heap.size w5 (w5.alloc (.cells #[.int .i64 pk, .int .i64 ps, .int .i64 pn, .int .i64 pl, .int .i64 pcd] 71)) := (Below.refl _ _).alloc (Nat.le_refl _) _
               have hub := B5.out.2.1.below hal B5.out.2.1.lt
               have hne : u4.ownBlock ≠ some w2.heap.size := fun e => by have h1 := ((own_below R.out.1 B2.out.2).lt _ e).2; omega
               have hub4 := hub.same (hgrow.block w2.heap.size hub.lt (fun e => hne e.symm))
               have g3 := hub4.cell 3
               simp at g3
               have G3 := hid (And.intro hown (And.intro hgrow hal))
               clear hub hne hub4 hown hgrow hat2 hal))
          have hk0 := (R.out.2.2.ok OK.out (by rw [← HP.out])).1
          have hbel : Below w.heap.size w w6 := by
            have h1 := R.out.2.1.trans (B2.out.2.mono hz.1)
            have h2 := h1.trans (B3.out.1.mono h1.size)
            have h3 := h2.trans (B5.out.1.mono h2.size)
            have h4 := h3.trans (G3.out.2.2.mono h3.size)
            exact h4.grown G3.out.2.1 h4.size (fun k hk => (R.out.1.lt k hk).1)
          have hsc := (R.out.2.2.ok OK.out (by rw [← HP.out])).2
          rw [← HP.out] at hsc
          have HREL := hid (And.intro hbel hsc)
          clear hbel hsc
          go_wp2_with fail
          go_roundg (gk - 1)
          case measure => omega
          case rel => exact ⟨u.end_, rs ++ [⟨pk, ps, pn, pl, pcd⟩], rfl, by simpa using G3.out.1, HREL.out.1, HREL.out.2⟩
        · have h1 : (pc == 0) = false := by simpa using hpc
          have HPC := hid hpc
          clear hpc
          go_wp2_with fail
          refine (err_ok pc (.slice none 0 0) _).mono ?_
          rintro e w5 ⟨rfl, h5⟩
          have hal : Below w3.heap.size w3 ((w3.alloc (.cells #[.int .i64 pk, .int .i64 ps, .int .i64 pn, .int .i64 pl, .int .i64 pcd] 71)).alloc (.cells #[.int .i64 pc, .slice none 0 0] 32)) := ((Below.refl _ _).alloc (Nat.le_refl _) _).alloc (by simp) _
          have hb1 := B2.out.2.trans (B3.out.1.mono B2.out.2.size)
          have hb2 := hal.trans (h5.mono hal.size)
          have HB := hid (hb1.trans (hb2.mono hb1.size))
          clear h5 hal hb1 hb2
          go_wp2_with fail
          go_ret2
          have hbad := R.out.2.2.bad OK.out (by rw [← HP.out]; exact HPC.out)
          refine ⟨u4, ?_, ?_, R.out.2.1.trans (HB.out.mono R.out.2.1.size)⟩
          · rw [hbad]; rfl
          · rw [hbad]
            exact own_below R.out.1 HB.out
    · have hn : decide ((n : Int) < (bs.length : Int)) = false := by simp; omega
      have hge : bs.length ≤ n := by omega
      clear hlt
      go_wp2_with fail
      go_ret2
      have hno := R.out.2.2.no (nextU_end hge)
      refine ⟨u4, ?_, ?_, R.out.2.1⟩
      · rw [hno]; rfl
      · rw [hno]
        exact R.out.1
end Go.Proofs.YtabklmkdneoaaaaDoor
/- kinlaw26.first, kinlaw26.Same: the walks. -/
namespace Go.Proofs.YtabklmkdneoaaaaDoor
open Go.RowKit

theorem own_at {W : World} {B n c s : Nat} {t : TypeId} {A : Option Addr} {xs : List Value} (h : W.ownsRow B t s (.slice A n c) n xs) (hn : 0 < n) : ∃ g, A = some ⟨g, 0, none⟩ ∧ ∀ (i : Nat) (v : Value), i < n * s → xs[i]? = some v → W.cell? ⟨g, i, none⟩ = some v := by
  rcases h.2 with ⟨_, h0⟩ | ⟨g, cap, cur, he, _⟩
  · omega
  · injection he with h1 h2 h3
    subst h1
    rw [h2] at h
    exact ⟨g, rfl, fun i v hi hv => (h.cellAt i (by rw [← h2]; exact hi)).trans hv⟩
theorem pack_example : packU ⟨50, 0, 0, 0, 2⟩ = unitBytes 50 [2] := by
  unfold packU
  rw [if_pos (by decide)]
  rfl
theorem scan_example : scanAll [0] = ([], 0) := by decide
set_option maxRecDepth 100000 in
set_option maxHeartbeats 2000000 in
theorem gfirst_any (w : World) (hg : ErrT w) : Calls Tryd.prog 58 #[] w fun e w' => e = .returned (.bool true) ∧ Below w.heap.size w w' := by
  have HG := hid (And.intro hg hg.lt)
  clear hg
  have HP1 := hid (fun W => gpack_any ⟨50, 0, 0, 0, 2⟩ W)
  have HP2 := hid (fun W => gpack_any ⟨50, 0, 0, 0, 0⟩ W)
  have HP3 := hid (fun W => gpack_any ⟨7, 0, 0, 0, 0⟩ W)
  unfold PackRes at HP1 HP2 HP3
  rw [pack_example, show packNo ⟨50, 0, 0, 0, 2⟩ = 0 by decide, show codeV 0 = .nilIface from rfl] at HP1
  rw [show packNo ⟨50, 0, 0, 0, 0⟩ = 3 by decide, show codeV 3 = .iface 29 (.int .i64 3) from rfl] at HP2
  rw [show packNo ⟨7, 0, 0, 0, 0⟩ = 13 by decide, show codeV 13 = .iface 29 (.int .i64 13) from rfl] at HP3
  have hul : (unitBytes 50 [2]).length = 9 := unitBytes_len 50 [2] (by omega)
  have hu4 : (unitBytes 50 [2])[4]? = some 2 := rfl
  rw [hul] at HP1
  have U := hid (And.intro hul hu4)
  clear hul hu4
  generalize unitBytes 50 [2] = ub at *
  generalize (packU ⟨50, 0, 0, 0, 0⟩) = u2 at *
  generalize (packU ⟨7, 0, 0, 0, 0⟩) = u3 at *
  unfold RecS.val at *
  dsimp only at *
  go_enter Tryd.func58, Tryd.ntmps58
  go_wp2_with fail
  refine (HP1.out _).mono ?_
  rintro e w1 ⟨A1, c1, rfl, ho, hb⟩
  obtain ⟨g1, rfl, hc1⟩ := own_at ho (by omega)
  have hc4 := hc1 4 (.int .u8 2) (by omega) (by rw [List.getElem?_map, U.out.2]; rfl)
  have B1 := hid hb
  have C1 := hid hc4
  clear ho hb hc1 hc4
  go_wp2_with fail
  refine (HP2.out _).mono ?_
  rintro e w2 ⟨A2, c2, rfl, _, hb⟩
  have B2 := hid (B1.out.trans (hb.mono B1.out.size))
  have C2 := hid (cell_keep hb C1.out)
  clear hb
  go_wp2_with fail
  refine (HP3.out _).mono ?_
  rintro e w3 ⟨A3, c3, rfl, _, hb⟩
  have B3 := hid (B2.out.trans (hb.mono B2.out.size))
  have C3 := hid (cell_keep hb C2.out)
  clear hb
  go_wp2_with fail
  refine (gscan_any _ [0] _ (byt_litAt w3 [0] (0, 0) rfl) (by simp)).mono ?_
  rintro e w4 ⟨lv, rfl, ho, hb⟩
  rw [scan_example] at ho ⊢
  obtain ⟨A4, c4, rfl⟩ := own_slice ho
  have hb4 : Below w3.heap.size w3 w4 := ((Below.refl _ _).alloc (Nat.le_refl _) _).trans (hb.mono (by simp))
  have B4 := hid (B3.out.trans (hb4.mono B3.out.size))
  have C4 := cell_keep hb4 C3.out
  clear hb hb4 ho
  go_wp2_with fail
  refine (fail_any 3 _).mono ?_
  rintro e w5 ⟨rfl, hb⟩
  have B5 := hid (B4.out.trans (hb.mono B4.out.size))
  clear hb
  go_wp2_with fail
  refine (err_same 3 _ (by exact HG.out.1.below B5.out HG.out.2)).mono ?_
  rintro e w6 ⟨rfl, hb⟩
  have B6 := hid (B5.out.trans (hb.mono B5.out.size))
  clear hb
  go_wp2_with fail
  refine (fail_any 13 _).mono ?_
  rintro e w7 ⟨rfl, hb⟩
  have B7 := hid (B6.out.trans (hb.mono B6.out.size))
  clear hb
  go_wp2_with fail
  refine (err_same 13 _ (by exact HG.out.1.below B7.out HG.out.2)).mono ?_
  rintro e w8 ⟨rfl, hb⟩
  have B8 := hid (B7.out.trans (hb.mono B7.out.size))
  clear hb
  go_wp2_with fail
  go_ret
  exact ⟨rfl, B8.out⟩
end Go.Proofs.YtabklmkdneoaaaaDoor
/- kinlaw26.Same: the walk; LogScans. -/
namespace Go.Proofs.YtabklmkdneoaaaaDoor
open Go.RowKit

/-- The slice x reads as these records. -/
structure RdR (w : World) (x : Value) (rs : List RecS) : Prop where
  row : ∃ A c, x = .slice A rs.length c ∧ rs.length ≤ c ∧ (rs ≠ [] → ∃ b off, A = some ⟨b, off, none⟩ ∧ b < w.heap.size ∧ ∀ (i : Nat) (r : RecS), rs[i]? = some r →
    w.cell? ⟨b, off + i * 5, none⟩ = some (.int .i64 r.kind) ∧ w.cell? ⟨b, off + i * 5 + 1, none⟩ = some (.int .i64 r.sum) ∧ w.cell? ⟨b, off + i * 5 + 2, none⟩ = some (.int .i64 r.num) ∧ w.cell? ⟨b, off + i * 5 + 3, none⟩ = some (.int .i64 r.len) ∧ w.cell? ⟨b, off + i * 5 + 4, none⟩ = some (.int .i64 r.code))
theorem RdR.of_own {w : World} {B : Nat} {t : TypeId} {lv : Value} {rs : List RecS} (h : w.ownsRow B t 5 lv rs.length (recCells rs)) : RdR w lv rs := by
  refine ⟨?_⟩
  rcases h.2 with ⟨rfl, h0⟩ | ⟨g, cap, cur, rfl, _, hg, hle, _⟩
  · exact ⟨none, 0, by rw [h0], by omega, fun hne => absurd (List.eq_nil_of_length_eq_zero h0) hne⟩
  · refine ⟨some ⟨g, 0, none⟩, cap, rfl, hle, fun _ => ⟨g, 0, rfl, (Array.getElem?_eq_some_iff.1 hg).1, fun i r hr => ?_⟩⟩
    obtain ⟨h1, h2, h3, h4, h5⟩ := recCells_at rs i r hr
    have hi := (List.getElem?_eq_some_iff.1 hr).1
    rw [Nat.zero_add]
    exact ⟨(h.cellAt (i * 5) (by omega)).trans h1, (h.cellAt (i * 5 + 1) (by omega)).trans h2, (h.cellAt (i * 5 + 2) (by omega)).trans h3, (h.cellAt (i * 5 + 3) (by omega)).trans h4, (h.cellAt (i * 5 + 4) (by omega)).trans h5⟩
theorem RdR.below {w w' : World} {x : Value} {rs : List RecS} (h : RdR w x rs) (hb : Below w.heap.size w w') : RdR w' x rs := by
  obtain ⟨A, c, rfl, hc, h2⟩ := h
  refine ⟨A, c, rfl, hc, fun hne => ?_⟩
  obtain ⟨b, off, rfl, h4, h5⟩ := h2 hne
  refine ⟨b, off, rfl, Nat.lt_of_lt_of_le h4 hb.size, fun i r hr => ?_⟩
  obtain ⟨k0, k1, k2, k3, k4⟩ := h5 i r hr
  exact ⟨cell_keep hb k0, cell_keep hb k1, cell_keep hb k2, cell_keep hb k3, cell_keep hb k4⟩
theorem RdR.form {w : World} {x : Value} {rs : List RecS} (h : RdR w x rs) : ∃ A c, x = .slice A rs.length c ∧ rs.length ≤ c := by
  obtain ⟨A, c, h1, h2, _⟩ := h
  exact ⟨A, c, h1, h2⟩
theorem RdR.at_ {w : World} {A : Option Addr} {n c : Nat} {rs : List RecS} (h : RdR w (.slice A n c) rs) {i : Nat} {r : RecS} (hr : rs[i]? = some r) :
    ∃ b off, A = some ⟨b, off, none⟩ ∧ b < w.heap.size ∧ w.cell? ⟨b, off + i * 5, none⟩ = some (.int .i64 r.kind) ∧ w.cell? ⟨b, off + i * 5 + 1, none⟩ = some (.int .i64 r.sum) ∧ w.cell? ⟨b, off + i * 5 + 2, none⟩ = some (.int .i64 r.num) ∧ w.cell? ⟨b, off + i * 5 + 3, none⟩ = some (.int .i64 r.len) ∧ w.cell? ⟨b, off + i * 5 + 4, none⟩ = some (.int .i64 r.code) := by
  obtain ⟨A', c', e, _, h2⟩ := h
  injection e with e1 e2 e3
  subst e1
  obtain ⟨b, off, e4, h4, h5⟩ := h2 (by rintro rfl; simp at hr)
  obtain ⟨k0, k1, k2, k3, k4⟩ := h5 i r hr
  exact ⟨b, off, e4, h4, k0, k1, k2, k3, k4⟩
theorem rrecs_neq (a0 a1 a2 a3 a4 : Int) (W : World) : (binOp .neq 71 (.agg #[.int .i64 a0, .int .i64 a1, .int .i64 a2, .int .i64 a3, .int .i64 a4]) (.agg #[.int .i64 a0, .int .i64 a1, .int .i64 a2, .int .i64 a3, .int .i64 a4])).run Tryd.prog W = .ok (.bool false) W := by
  go_simp
set_option maxRecDepth 100000 in
set_option maxHeartbeats 4000000 in
theorem recs_same (x y : Value) (rs : List RecS) (w : World) (hx : RdR w x rs) (hy : RdR w y rs) (hl : rs.length ≤ 1000000) :
    Calls Tryd.prog 66 #[x, y] w fun e w' => e = .returned (.bool true) ∧ Below w.heap.size w w' := by
  obtain ⟨A1, c1, rfl, _⟩ := hx.form
  obtain ⟨A2, c2, rfl, _⟩ := hy.form
  have H := hid (And.intro hx (And.intro hy hl))
  clear hx hy hl
  go_enter Tryd.func66, Tryd.ntmps66
  go_wp2_with fail
  go_loopg [5] rs.length (fun k iv wr => ∃ j : Nat, j + k = rs.length ∧ iv = .int .i64 j ∧ Below w.heap.size w wr)
  case atStart => exact ⟨0, by omega, rfl, Below.refl _ _⟩
  case round =>
    obtain ⟨j, hj, rfl, hb⟩ := hrel
    by_cases hlt : j < rs.length
    · obtain ⟨⟨rk, r1, r2, r3, r4⟩, hp⟩ : ∃ p, rs[j]? = some p := ⟨rs[j], List.getElem?_eq_getElem hlt⟩
      obtain ⟨b1, o1, rfl, _, p0, p1, p2, p3, p4⟩ := (H.out.1.below hb).at_ hp
      obtain ⟨b2, o2, rfl, _, q0, q1, q2, q3, q4⟩ := (H.out.2.1.below hb).at_ hp
      dsimp only at p0 p1 p2 p3 p4 q0 q1 q2 q3 q4
      have FF := hid (And.intro hb hj)
      have hx1 : ∀ W2 : World, (Instr.indexAt 68 (.slice (some ⟨b1, o1, none⟩) rs.length c1) (.int .i64 j)).run Tryd.prog W2 = .ok (.pointer (some ⟨b1, o1 + j * 5, none⟩)) W2 := by
        intro W2
        have k0 : (0 : Int) ≤ (j : Int) := by omega
        have k1 : (j : Int) < (rs.length : Int) := by omega
        go_simp
      have hx2 : ∀ W2 : World, (Instr.indexAt 69 (.slice (some ⟨b2, o2, none⟩) rs.length c2) (.int .i64 j)).run Tryd.prog W2 = .ok (.pointer (some ⟨b2, o2 + j * 5, none⟩)) W2 := by
        intro W2
        have k0 : (0 : Int) ≤ (j : Int) := by omega
        have k1 : (j : Int) < (rs.length : Int) := by omega
        go_simp
      have hjl : j ≤ 1000000 := by have := H.out.2.2; omega
      have hnq := rrecs_neq rk r1 r2 r3 r4
      have HPl : Hid (∀ W, Calls Tryd.prog 43 #[.agg #[.int .i64 rk, .int .i64 r1, .int .i64 r2, .int .i64 r3, .int .i64 r4]] W fun e w' => e = .returned (.agg #[.int .i64 rk, .int .i64 r1, .int .i64 r2, .int .i64 r3, .int .i64 r4]) ∧ Below W.heap.size W w') := fun W => plain_any ⟨rk, r1, r2, r3, r4⟩ W
      have hk0 : (0 : Int) ≤ (j : Int) := by omega
      have hk1 : (j : Int) < (rs.length : Int) := by omega
      clear hb hp
      go_wp2_with fail
      go_region_held3 (fun W => W.cell? ⟨b1, o1 + j * 5, none⟩ = some (.int .i64 rk) ∧ W.cell? ⟨b1, o1 + j * 5 + 1, none⟩ = some (.int .i64 r1) ∧ W.cell? ⟨b1, o1 + j * 5 + 2, none⟩ = some (.int .i64 r2) ∧ W.cell? ⟨b1, o1 + j * 5 + 3, none⟩ = some (.int .i64 r3) ∧ W.cell? ⟨b1, o1 + j * 5 + 4, none⟩ = some (.int .i64 r4) ∧ W.cell? ⟨b2, o2 + j * 5, none⟩ = some (.int .i64 rk) ∧ W.cell? ⟨b2, o2 + j * 5 + 1, none⟩ = some (.int .i64 r1) ∧ W.cell? ⟨b2, o2 + j * 5 + 2, none⟩ = some (.int .i64 r2) ∧ W.cell? ⟨b2, o2 + j * 5 + 3, none⟩ = some (.int .i64 r3) ∧ W.cell? ⟨b2, o2 + j * 5 + 4, none⟩ = some (.int .i64 r4))
        (first
          | exact KW.out
          | exact ⟨p0, p1, p2, p3, p4, q0, q1, q2, q3, q4⟩)
        (first
          | (go_at_call 43
             refine (HPl.out _).mono ?_
             rintro e w2 ⟨rfl, hb2⟩
             have hbw : Below wr.heap.size wr w2 := by first | exact hb2 | exact ⟨hb2.os, hb2.tape, hb2.output, hb2.size, hb2.block⟩
             have KW := hid (And.intro (cell_keep hbw p0) (And.intro (cell_keep hbw p1) (And.intro (cell_keep hbw p2) (And.intro (cell_keep hbw p3) (And.intro (cell_keep hbw p4) (And.intro (cell_keep hbw q0) (And.intro (cell_keep hbw q1) (And.intro (cell_keep hbw q2) (And.intro (cell_keep hbw q3) (cell_keep hbw q4))))))))))
             have BW := hid (FF.out.1.trans (hbw.mono FF.out.1.size))
             clear hb2 hbw)
          | fail)
      all_goals
        clear hx1 hx2 p0 p1 p2 p3 p4 q0 q1 q2 q3 q4 hnq
        go_wp2_with fail
        have hj := FF.out.2
        go_roundg (gk - 1)
        case measure => omega
        case rel =>
          refine ⟨j + 1, by omega, by go_num, ?_⟩
          first | exact BW.out | exact BW.out.drew
    · have hge : rs.length ≤ j := by omega
      have hn : decide ((j : Int) < (rs.length : Int)) = false := by simp; omega
      go_wp2_with fail
      go_ret
      exact ⟨rfl, hb⟩
theorem gscans_big (A : Option Addr) (n c : Nat) (w : World) (hg : ErrT w) (hs : 20000 < n) :
    Calls Tryd.prog 16 #[.slice A n c] w fun e w' => e = .returned (.bool true) ∧ Below w.heap.size w w' := by
  have HG := hid (And.intro hg hg.lt)
  have hb' : decide ((20000 : Int) < (n : Int)) = true := by simp; omega
  clear hg hs
  go_enter Tryd.func16, Tryd.ntmps16
  go_wp2_with fail
  refine (gfirst_any _ HG.out.1).mono ?_
  rintro e w1 ⟨rfl, h1⟩
  have B1 := hid h1
  clear h1
  go_wp2_with fail
  refine (gfirst_any _ (HG.out.1.below B1.out HG.out.2)).mono ?_
  rintro e w2 ⟨rfl, h1⟩
  have B2 := hid h1
  clear h1
  go_wp2_with fail
  go_ret
  exact ⟨rfl, B1.out.trans (B2.out.mono B1.out.size)⟩
theorem scanAll_len (bs : List UInt8) : (scanAll bs).1.length ≤ bs.length := by
  have : ∀ k n, (scanR bs k n).1.length ≤ k := by
    intro k
    induction k with
    | zero => intro n; simp [scanR]
    | succ k ih =>
      intro n
      unfold scanR
      split
      · simp
      · rename_i u _
        split
        · have := ih u.end_
          simp
          omega
        · simp
  exact this _ _
set_option maxRecDepth 100000 in
set_option maxHeartbeats 4000000 in
theorem gscans_walk (x : Value) (bs : List UInt8) (w : World) (hx : Byt w x bs) (_ : bs.length ≤ maxLen) (hg : ErrT w) :
    Calls Tryd.prog 16 #[x] w fun e w' => e = .returned (.bool true) ∧ Below w.heap.size w w' := by
  obtain ⟨A, c, rfl, hc⟩ := hx.form
  by_cases hbig : 20000 < bs.length
  · exact gscans_big A bs.length c w hg hbig
  · have hb' : decide ((20000 : Int) < (bs.length : Int)) = false := by simp; omega
    have HL := hid (show bs.length ≤ 1000000 by omega)
    have HG := hid (And.intro hg hg.lt)
    have X := hid hx
    clear hbig hg hx hc
    have HS := hid (fun W (hW : Byt W (.slice A bs.length c) bs) => gscan_any (.slice A bs.length c) bs W hW HL.out)
    have HR := hid (fun W (hW : Byt W (.slice A bs.length c) bs) => rscan_any (.slice A bs.length c) bs W hW HL.out)
    have SL := hid (scanAll_len bs)
    unfold ScanRes at HS HR
    generalize scanAll bs = sc at *
    go_enter Tryd.func16, Tryd.ntmps16
    go_wp2_with fail
    refine (gfirst_any _ HG.out.1).mono ?_
    rintro e w1 ⟨rfl, h1⟩
    have B1 := hid h1
    clear h1
    go_wp2_with fail
    refine (HS.out _ (X.out.below B1.out)).mono ?_
    rintro e w2 ⟨lv, rfl, ho, h2⟩
    have B2 := hid (B1.out.trans (h2.mono B1.out.size))
    have R2 := hid (RdR.of_own ho)
    clear ho h2
    go_wp2_with fail
    refine (HR.out _ (X.out.below B2.out)).mono ?_
    rintro e w3 ⟨mv, rfl, ho, h3⟩
    have B3 := hid (B2.out.trans (h3.mono B2.out.size))
    have R3 := hid (And.intro (R2.out.below h3) (RdR.of_own ho))
    clear ho h3
    go_wp2_with fail
    refine (gfirst_any _ (HG.out.1.below B3.out HG.out.2)).mono ?_
    rintro e w4 ⟨rfl, h4⟩
    have B4 := hid (B3.out.trans (h4.mono B3.out.size))
    have R4 := hid (And.intro (R3.out.1.below h4) (R3.out.2.below h4))
    clear h4
    go_wp2_with fail
    refine (recs_same _ _ sc.1 _ R4.out.1 R4.out.2 (by have := SL.out; have := HL.out; omega)).mono ?_
    rintro e w5 ⟨rfl, h5⟩
    have B5 := hid (B4.out.trans (h5.mono B4.out.size))
    clear h5
    go_wp2_with fail
    go_ret
    exact ⟨rfl, B5.out⟩
end Go.Proofs.YtabklmkdneoaaaaDoor
