/- Parts: XSynD. -/
import Derived.Test.YtkkgpdejmcpcpaaGreatDoorM26
import Derived.Deep.RegionHeldLaw
/- Chapter 20: syntax.parts at whatever coder. -/
namespace Go.Proofs.YtkkgpdejmcpcpaaGreatDoor
open Go.RowKit
section
variable {σ : Type} {M : Mach σ} {fB fF : FuncId} {At : World → (Nat → Prop) → σ → Prop} {Ok : σ → Nat → Prop}
theorem ok_mode {me : Value} (H : IsCoder M fB fF me At Ok) (m : Int) (s : σ) (lim : Nat) (h : Ok s lim) : ∃ n, n ≤ lim + 100 ∧ Ok (M.mode m s).2 n := by
  obtain ⟨n, h1, h2⟩ := H.okRun (modeA m) 2 (ctx_mode m) (most_mode m) s lim h
  rw [run_mode] at h2
  exact ⟨n, by omega, h2⟩
theorem ok_part {me : Value} (H : IsCoder M fB fF me At Ok) (m : Int) (s : σ) (lim : Nat) (h : Ok s lim) : ∃ n, n ≤ lim + 100 ∧ Ok (M.part m s).2 n := by
  obtain ⟨n, h1, h2⟩ := H.okRun (partA m) 16 (ctx_part m) (most_part m) s lim h
  rw [run_part] at h2
  exact ⟨n, by omega, h2⟩
theorem smalls_none {m : Int} {l : List Int} {r : List (Int × List Int)} {a : List Int} {c : List (List Int)} {s t : σ} {o : List Int} (h : M.run (squareA 14 (ordOf 4) l) (M.mode m s).2 = ((none, o), t)) :
    M.run (smallsA ((m, l) :: r) a c) s = M.run (smallsA r (a ++ [(M.mode m s).1]) (c ++ [o])) t := by
  have e : (smallsA ((m, l) :: r) a c) = (modeA m).bind fun m' => (squareA 14 (ordOf 4) l).bind fun q => match q.1 with
    | some i => .ret (some i, a ++ [m'], c)
    | none => smallsA r (a ++ [m']) (c ++ [q.2]) := rfl
  rw [e, run_bind, run_bind, run_mode, h]
theorem smalls_some {m : Int} {l : List Int} {r : List (Int × List Int)} {a : List Int} {c : List (List Int)} {s t : σ} {o : List Int} {i : Nat} (h : M.run (squareA 14 (ordOf 4) l) (M.mode m s).2 = ((some i, o), t)) :
    M.run (smallsA ((m, l) :: r) a c) s = ((some i, a ++ [(M.mode m s).1], c), t) := by
  have e : (smallsA ((m, l) :: r) a c) = (modeA m).bind fun m' => (squareA 14 (ordOf 4) l).bind fun q => match q.1 with
    | some i => .ret (some i, a ++ [m'], c)
    | none => smallsA r (a ++ [m']) (c ++ [q.2]) := rfl
  rw [e, run_bind, run_bind, run_mode, h]
  rfl
theorem ans_formD {w0 w' : World} {r : SqR} {F : Nat → Prop} {e : Ending} (h : SqAns w0 r F e w') : ∃ A n ev, e = .returned (.tuple #[.slice A n n, ev]) := by
  obtain ⟨ro, rl⟩ := r
  cases ro with
  | none => obtain ⟨g, h1, _⟩ := h; exact ⟨_, _, _, h1⟩
  | some i => obtain ⟨ev, h1, _⟩ := h; exact ⟨_, _, _, h1⟩
theorem sq_ans {w0 : World} {r : SqR} {F : Nat → Prop} {e : Ending} {w' : World} {n : Nat} (hok : SqOk n r) (h : SqAns w0 r F e w') :
    (∃ o g, r = (none, o) ∧ o.length = n ∧ e = .returned (.tuple #[.slice (some ⟨g, 0, none⟩) n n, .nilIface]) ∧ BOff w0 g o w' F) ∨ (∃ i ev, r = (some i, []) ∧ e = .returned (.tuple #[nilS, ev]) ∧ ErrV w' 3 [(⟨#[99, 111, 101, 102]⟩, (i : Int))] ev) := by
  obtain ⟨ro, rl⟩ := r
  rcases hok with ⟨q1, q2, q3⟩ | ⟨i, q1, q2, q3⟩
  · dsimp only at q1 q2 q3
    subst q1
    obtain ⟨g, rfl, hb⟩ := h
    exact .inl ⟨rl, g, rfl, q2, by rw [← q2], hb⟩
  · dsimp only at q1 q2 q3
    subst q1 q3
    obtain ⟨ev, rfl, hv⟩ := h
    exact .inr ⟨i, ev, rfl, rfl, hv⟩
theorem errv_put {W : World} {ob : Nat} {ty : TypeId} {k mode x y : Int} {ms : List Int} {lv : Value} {vs : List Value} {c : Int} {q : PathS} {v : Value} (h : ErrV W c q v) (hb : SqBlk W ob ty k mode ms x y lv vs) (ht : ty ≠ 132) (i : Nat) (u : Value) : ErrV (W.setCell ⟨ob, i, none⟩ u) c q v := by
  obtain ⟨cs, hb, _⟩ := hb
  refine h.only (S := fun k => k = ob) (Only.put (S := fun k => k = ob) (Only.refl _ _) rfl i u) (fun k cs' hk hB => ?_)
  subst hk
  exact ht (hb.uniq hB).1
set_option maxRecDepth 100000 in
set_option maxHeartbeats 8000000 in
theorem sparts_any (b : Nat) (T : TypeId) (H : IsCoder M fB fF (.pointer (some ⟨b, 0, none⟩)) At Ok) (Sp : Speaks T (.pointer (some ⟨b, 0, none⟩)) fB fF) (Sp2 : Speaks2 T (.pointer (some ⟨b, 0, none⟩)))
    (vv : Value) (s : SqS) (m0 m1 m2 m3 : Int) (lv v0 v1 v2 v3 : Value) (l0 l1 l2 l3 : List Int) (k : Int) (ob : Nat) (st : σ) (w : World) (F : Nat → Prop) (lim : Nat)
    (hn : SqNum vv s m0 m1 m2 m3 lv v0 v1 v2 v3) (hsm : s.small = [l0, l1, l2, l3]) (hk : 0 ≤ k ∧ k ≤ 3) (hs : At w F st) (ho : Ok st lim) (hl : lim + 60000 ≤ 1000000000)
    (hout : SqBlk w ob 36 k 0 [] 0 0 nilS []) (hF : ¬ F ob)
    (h3 : k = 3 → ∀ p ∈ [(v0, l0), (v1, l1), (v2, l2), (v3, l3)], LOff p.1 p.2 w F ob ∧ p.2.length = 16 ∧ p.2.any lvOut = false)
    (h12 : k = 1 ∨ k = 2 → LOff lv s.large w F ob ∧ s.large.length = 64 ∧ s.large.any lvOut = false) :
    Calls Tryz.prog 35 #[.iface T (.pointer (some ⟨b, 0, none⟩)), vv, .pointer (some ⟨ob, 0, none⟩)] w (PartsRes M At ob 36 w F k (restA k s) st) := by
  have hvv := hn.v
  have hms := hn.m
  subst hvv
  have HM : ∀ (m : Int) (s : σ) (w : World) (F : Nat → Prop) (lim : Nat), At w F s → Ok s lim → lim + 100 ≤ 1000000000 → Calls Tryz.prog 58 #[.iface T (.pointer (some ⟨b, 0, none⟩)), .int .i64 m] w (Coded At w F (M.mode m s)) := fun m s w F lim h1 h2 h3 => mode_any b T H Sp m s w F lim h1 h2 h3
  have HC : ∀ (sd base : Nat) (x : Value) (l : List Int), Sized l sd base → l.any lvOut = false → ∀ (s : σ) (w : World) (F : Nat → Prop) (lim : Nat), At w F s → Ok s lim → lim + 10000 ≤ 1000000000 → NOff x l w F → Calls Tryz.prog 59 #[.iface T (.pointer (some ⟨b, 0, none⟩)), x] w (CodeRes M At w F (squareA base (ordOf sd) l) s) := fun sd base x l h1 h2 s w F lim h3 h4 h5 h6 => code_any b T H Sp Sp2 sd base x l h1 h2 s w F lim h3 h4 h5 h6
  have hob := hout.lt
  have hbox : SqBlk (w.alloc (.cells #[.int .i64 s.kind, .int .i64 s.mode, .int .i64 m0, .int .i64 m1, .int .i64 m2, .int .i64 m3, .int .i64 s.x, .int .i64 s.y, lv, v0, v1, v2, v3] 36)) w.heap.size 36 s.kind s.mode [m0, m1, m2, m3] s.x s.y lv [v0, v1, v2, v3] := SqBlk.of (Blk.new _ _ _) rfl
  have hb1 : Below w.heap.size w (w.alloc (.cells #[.int .i64 s.kind, .int .i64 s.mode, .int .i64 m0, .int .i64 m1, .int .i64 m2, .int .i64 m3, .int .i64 s.x, .int .i64 s.y, lv, v0, v1, v2, v3] 36)) := (Below.refl _ _).alloc (Nat.le_refl _) _
  have hF1 : ¬ F w.heap.size := fun h => by have := H.there _ _ _ _ hs h; omega
  have hp0 : PW At w F ob st w F := PW.start hs hF hob
  have hsz : (w.alloc (.cells #[.int .i64 s.kind, .int .i64 s.mode, .int .i64 m0, .int .i64 m1, .int .i64 m2, .int .i64 m3, .int .i64 s.x, .int .i64 s.y, lv, v0, v1, v2, v3] 36)).heap.size = w.heap.size + 1 := by simp
  have hp1 : PW At (w.alloc (.cells #[.int .i64 s.kind, .int .i64 s.mode, .int .i64 m0, .int .i64 m1, .int .i64 m2, .int .i64 m3, .int .i64 s.x, .int .i64 s.y, lv, v0, v1, v2, v3] 36)) F ob st (w.alloc (.cells #[.int .i64 s.kind, .int .i64 s.mode, .int .i64 m0, .int .i64 m1, .int .i64 m2, .int .i64 m3, .int .i64 s.x, .int .i64 s.y, lv, v0, v1, v2, v3] 36)) F := PW.start (hp0.below H hb1).a hF (by omega)
  have hPQ : ∀ L : List (Value × List Int), (∀ p ∈ L, LOff p.1 p.2 w F ob) → PQ At (w.alloc (.cells #[.int .i64 s.kind, .int .i64 s.mode, .int .i64 m0, .int .i64 m1, .int .i64 m2, .int .i64 m3, .int .i64 s.x, .int .i64 s.y, lv, v0, v1, v2, v3] 36)) F ob w.heap.size 36 36 s.kind s.mode [m0, m1, m2, m3] s.x s.y lv [v0, v1, v2, v3] L [] k 0 [] 0 0 nilS [] st (w.alloc (.cells #[.int .i64 s.kind, .int .i64 s.mode, .int .i64 m0, .int .i64 m1, .int .i64 m2, .int .i64 m3, .int .i64 s.x, .int .i64 s.y, lv, v0, v1, v2, v3] 36)) F := fun L hL => ⟨hp1, hbox, hF1, by omega, by omega, hout.below hb1, fun p hp => (hL p hp).below hb1, fun p hp => by cases hp⟩
  have B1 := hid (And.intro hb1 hob)
  have PQH := hid hPQ
  have OKH := hid ho
  unfold sqV
  have hrk : (restA k s) = if k = 3 then (smallsA (s.modes.zip s.small) [] []).bind fun r => .ret (r.1, { bareS 3 with modes := r.2.1, small := r.2.2 })
    else if k = 0 then .ret (none, bareS 0)
    else if k = 1 then (partA s.x).bind fun x => (partA s.y).bind fun y => (largeA s.large).bind fun q => .ret (q.1, { bareS 1 with x := x, y := y, large := q.2 })
    else (modeA s.mode).bind fun m => (largeA s.large).bind fun q => .ret (q.1, { bareS k with mode := m, large := q.2 }) := rfl
  rw [hms, hsm] at hrk
  have RK := hid hrk
  clear hrk hPQ hp1 hp0 hsz hF1 hb1 hbox hs ho hn hms hsm hout hob
  generalize restA k s = rk at *
  generalize s.kind = k0 at *
  generalize s.mode = mode0 at *
  generalize s.x = x0 at *
  generalize s.y = y0 at *
  generalize s.large = lg at *
  have hc : k = 0 ∨ k = 1 ∨ k = 2 ∨ k = 3 := by omega
  rcases hc with rfl | rfl | rfl | rfl
  · have Q0 := hid (PQH.out [] (fun p hp => by cases hp))
    have Q := hid (show rk = .ret (none, bareS 0) by rw [RK.out]; rfl)
    have c0 := Q0.out.out.c0
    clear RK PQH h3 h12
    go_enter Tryz.func35, Tryz.ntmps35
    go_wp2_with fail
    go_ret
    refine ⟨F, ?_, c0, ?_⟩
    · rw [Q.out]; exact Q0.out.p.earlier B1.out.1 B1.out.2
    · rw [Q.out]
      refine ⟨rfl, nilS, [nilS, nilS, nilS, nilS], Q0.out.out.getD4 (fun j _ => getD_zero4 0 j) (fun j _ => getD_zero4 nilS j), Lst.nil, fun j hj => ?_⟩
      match j, hj with
      | 0, _ => exact Lst.nil
      | 1, _ => exact Lst.nil
      | 2, _ => exact Lst.nil
      | 3, _ => exact Lst.nil
  · replace h12 := h12 (.inl rfl)
    obtain ⟨A, cp, hvf, _⟩ := h12.1.n.n.form
    rw [h12.2.1] at hvf
    subst hvf
    have Q0 := hid (PQH.out [(.slice A 64 cp, lg)] (fun p hp => by rw [List.mem_singleton.1 hp]; exact h12.1))
    have Q := hid (show rk = (partA x0).bind fun x => (partA y0).bind fun y => (largeA lg).bind fun q => .ret (q.1, { bareS 1 with x := x, y := y, large := q.2 }) by rw [RK.out]; rfl)
    have c0 := Q0.out.out.c0
    have hsd : Sized lg 8 39 := .inr ⟨rfl, rfl, h12.2.1⟩
    have SD := hid (And.intro hsd h12.2)
    have NE := hid Q0.out.bo
    clear RK PQH h3 h12 hsd
    have hc6 := Q0.out.box.c6
    have HP : ∀ (m : Int) (s : σ) (w : World) (F : Nat → Prop) (lim : Nat), At w F s → Ok s lim → lim + 100 ≤ 1000000000 → Calls Tryz.prog 60 #[.iface T (.pointer (some ⟨b, 0, none⟩)), .int .i64 m] w (Coded At w F (M.part m s)) := fun m s w F lim h1 h2 h3 => part_any b T H Sp m s w F lim h1 h2 h3
    go_enter Tryz.func35, Tryz.ntmps35
    go_wp2_with fail
    generalize (w.alloc (.cells #[.int .i64 k0, .int .i64 mode0, .int .i64 m0, .int .i64 m1, .int .i64 m2, .int .i64 m3, .int .i64 x0, .int .i64 y0, .slice A 64 cp, v0, v1, v2, v3] 36)) = w1 at *
    refine (HP x0 st _ F lim (by exact Q0.out.p.a) OKH.out (by omega)).mono ?_
    rintro e w2 ⟨rfl, hm2⟩
    obtain ⟨G2, hq2⟩ := Q0.out.moved hm2
    have hpp2 := hq2.put H 6 (.int .i64 (M.part x0 st).1) (hq2.out.put6 _)
    have P2 := hid hpp2
    have hoc2 := hq2.out.c6
    have hof2 := hq2.out.frozen 6
    have hbp2 := hpp2.box.c7
    obtain ⟨n2, hn2, hok2⟩ := ok_part H x0 st lim OKH.out
    have OK2 := hid (And.intro hok2 hn2)
    clear hm2 hq2 hpp2 hok2 hn2 hc6
    obtain ⟨w22, hw22⟩ : ∃ q, q = w2.setCell ⟨ob, 6, none⟩ (.int .i64 (M.part x0 st).1) := ⟨_, rfl⟩
    go_wp2_with fail
    rw [← hw22] at P2
    rw [← hw22]
    clear hw22 hoc2 hof2 hbp2
    obtain ⟨s2, hs2⟩ : ∃ q, q = (M.part x0 st).2 := ⟨_, rfl⟩
    rw [← hs2] at P2 OK2
    refine (HP y0 s2 _ G2 n2 (by exact P2.out.p.a) OK2.out.1 (by have := OK2.out.2; omega)).mono ?_
    rintro e w3 ⟨rfl, hm3⟩
    obtain ⟨G3, hq3⟩ := P2.out.moved hm3
    have hpp3 := hq3.put H 7 (.int .i64 (M.part y0 s2).1) (hq3.out.put7 _)
    have P3 := hid hpp3
    have hoc3 := hq3.out.c7
    have hof3 := hq3.out.frozen 7
    have hbp3 := hpp3.box.c8
    obtain ⟨n4, hn4, hok4⟩ := ok_part H y0 s2 n2 OK2.out.1
    have OK4 := hid (And.intro hok4 (show n4 ≤ lim + 200 by have := OK2.out.2; omega))
    have S2 := hid hs2
    clear hm3 hq3 hpp3 hok4 hn4 hs2
    obtain ⟨w4, hw4⟩ : ∃ q, q = w3.setCell ⟨ob, 7, none⟩ (.int .i64 (M.part y0 s2).1) := ⟨_, rfl⟩
    go_wp2_with fail
    rw [← hw4] at P3
    rw [← hw4]
    clear hw4 hoc3 hof3 hbp3
    refine (HC 8 39 (.slice A 64 cp) lg SD.out.1 SD.out.2.2 (M.part y0 s2).2 _ G3 n4 (by exact P3.out.p.a) OK4.out.1 (by have := OK4.out; omega) (by exact (P3.out.ls (.slice A 64 cp, lg) (by simp)).n)).mono ?_
    rintro e w5 ⟨G5, hcw, hans⟩
    obtain ⟨aA, an, ev, rfl⟩ := ans_formD hans
    have hq5 := P3.out.code hcw
    have hpp5 := hq5.put H 8 (.slice aA an an) (hq5.out.put8 (.slice aA an an))
    have Q5 := hid (And.intro hpp5 (And.intro hq5 hans))
    have hoc5 := hq5.out.c8
    have hof5 := hq5.out.frozen 8
    have hsize : w1.heap.size ≤ w4.heap.size := P3.out.p.o.size
    have hsqok := ans_square (M := M) SD.out.1 (M.part y0 s2).2
    rw [SD.out.2.1] at hsqok
    obtain ⟨r, t, hr⟩ : ∃ r t, M.run (squareA 39 (ordOf 8) lg) (M.part y0 s2).2 = (r, t) := ⟨_, _, rfl⟩
    rw [hr] at hsqok
    have SZ := hid (And.intro hsize (And.intro hsqok hr))
    clear hpp5 hq5 hcw hans hsize hsqok hr
    go_wp2_with fail
    go_ret
    have hq5 := Q5.out
    rw [SZ.out.2.2] at hq5
    rcases sq_ans SZ.out.2.1 hq5.2.2 with ⟨o, g, rfl, hlen, he, hbo⟩ | ⟨i5, ev5, rfl, he, hev⟩
    · obtain ⟨⟨rfl, rfl⟩, rfl⟩ : (aA = some ⟨g, 0, none⟩ ∧ an = 64) ∧ ev = .nilIface := by simpa using he
      have hlst : Lst w1 (.slice (some ⟨g, 0, none⟩) 64 64) o (w5.setCell ⟨ob, 8, none⟩ (.slice (some ⟨g, 0, none⟩) 64 64)) G5 := (Lst.earlier (w0 := w4) (.inr ⟨g, by rw [hlen], hbo⟩) SZ.out.1).put hq5.1.p.b _ _
      have hR : M.run rk st = ((none, { bareS 1 with x := (M.part x0 st).1, y := (M.part y0 s2).1, large := o }), t) := by
        rw [Q.out]
        rw [run_bind, run_part, ← S2.out, run_bind, run_part, run_bind, show largeA lg = squareA 39 (ordOf 8) lg from rfl, SZ.out.2.2]; rfl
      refine ⟨G5, ?_, hq5.1.out.c0, ?_⟩
      · rw [hR]; exact hq5.1.p.earlier B1.out.1 B1.out.2
      · rw [hR]
        refine ⟨rfl, _, [nilS, nilS, nilS, nilS], hq5.1.out.getD4 (fun j _ => getD_zero4 0 j) (fun j _ => getD_zero4 nilS j), hlst.earlier B1.out.1.size, fun j hj => ?_⟩
        match j, hj with
        | 0, _ => exact Lst.nil
        | 1, _ => exact Lst.nil
        | 2, _ => exact Lst.nil
        | 3, _ => exact Lst.nil
    · obtain ⟨⟨rfl, rfl⟩, rfl⟩ : (aA = none ∧ an = 0) ∧ ev = ev5 := by simpa using he
      have hev2 : ErrV (w5.setCell ⟨ob, 8, none⟩ (.slice none 0 0)) 3 [(⟨#[99, 111, 101, 102]⟩, (i5 : Int))] ev := errv_put hev hq5.2.1.out (by decide) _ _
      have hR : M.run rk st = ((some i5, { bareS 1 with x := (M.part x0 st).1, y := (M.part y0 s2).1, large := [] }), t) := by
        rw [Q.out]
        rw [run_bind, run_part, ← S2.out, run_bind, run_part, run_bind, show largeA lg = squareA 39 (ordOf 8) lg from rfl, SZ.out.2.2]; rfl
      refine ⟨G5, ?_, hq5.1.out.c0, ?_⟩
      · rw [hR]; exact hq5.1.p.earlier B1.out.1 B1.out.2
      · rw [hR]; exact ⟨_, rfl, hev2⟩
  · replace h12 := h12 (.inr rfl)
    obtain ⟨A, cp, hvf, _⟩ := h12.1.n.n.form
    rw [h12.2.1] at hvf
    subst hvf
    have Q0 := hid (PQH.out [(.slice A 64 cp, lg)] (fun p hp => by rw [List.mem_singleton.1 hp]; exact h12.1))
    have Q := hid (show rk = (modeA mode0).bind fun m => (largeA lg).bind fun q => .ret (q.1, { bareS 2 with mode := m, large := q.2 }) by rw [RK.out]; rfl)
    have c0 := Q0.out.out.c0
    have hsd : Sized lg 8 39 := .inr ⟨rfl, rfl, h12.2.1⟩
    have SD := hid (And.intro hsd h12.2)
    have NE := hid Q0.out.bo
    clear RK PQH h3 h12 hsd
    have hc1 := Q0.out.box.c1
    go_enter Tryz.func35, Tryz.ntmps35
    go_wp2_with fail
    generalize (w.alloc (.cells #[.int .i64 k0, .int .i64 mode0, .int .i64 m0, .int .i64 m1, .int .i64 m2, .int .i64 m3, .int .i64 x0, .int .i64 y0, .slice A 64 cp, v0, v1, v2, v3] 36)) = w1 at *
    refine (HM mode0 st _ F lim (by exact Q0.out.p.a) OKH.out (by omega)).mono ?_
    rintro e w3 ⟨rfl, hm3⟩
    obtain ⟨G3, hq3⟩ := Q0.out.moved hm3
    have hpp3 := hq3.put H 1 (.int .i64 (M.mode mode0 st).1) (hq3.out.put1 _)
    have P3 := hid hpp3
    have hoc3 := hq3.out.c1
    have hof3 := hq3.out.frozen 1
    have hbp3 := hpp3.box.c8
    obtain ⟨n4, hn4, hok4⟩ := ok_mode H mode0 st lim OKH.out
    have OK4 := hid (And.intro hok4 hn4)
    clear hm3 hq3 hpp3 hok4 hn4 hc1
    obtain ⟨w4, hw4⟩ : ∃ q, q = w3.setCell ⟨ob, 1, none⟩ (.int .i64 (M.mode mode0 st).1) := ⟨_, rfl⟩
    go_wp2_with fail
    rw [← hw4] at P3
    rw [← hw4]
    clear hw4 hoc3 hof3 hbp3
    refine (HC 8 39 (.slice A 64 cp) lg SD.out.1 SD.out.2.2 (M.mode mode0 st).2 _ G3 n4 (by exact P3.out.p.a) OK4.out.1 (by have := OK4.out; omega) (by exact (P3.out.ls (.slice A 64 cp, lg) (by simp)).n)).mono ?_
    rintro e w5 ⟨G5, hcw, hans⟩
    obtain ⟨aA, an, ev, rfl⟩ := ans_formD hans
    have hq5 := P3.out.code hcw
    have hpp5 := hq5.put H 8 (.slice aA an an) (hq5.out.put8 (.slice aA an an))
    have Q5 := hid (And.intro hpp5 (And.intro hq5 hans))
    have hoc5 := hq5.out.c8
    have hof5 := hq5.out.frozen 8
    have hsize : w1.heap.size ≤ w4.heap.size := P3.out.p.o.size
    have hsqok := ans_square (M := M) SD.out.1 (M.mode mode0 st).2
    rw [SD.out.2.1] at hsqok
    obtain ⟨r, t, hr⟩ : ∃ r t, M.run (squareA 39 (ordOf 8) lg) (M.mode mode0 st).2 = (r, t) := ⟨_, _, rfl⟩
    rw [hr] at hsqok
    have SZ := hid (And.intro hsize (And.intro hsqok hr))
    clear hpp5 hq5 hcw hans hsize hsqok hr
    go_wp2_with fail
    go_ret
    have hq5 := Q5.out
    rw [SZ.out.2.2] at hq5
    rcases sq_ans SZ.out.2.1 hq5.2.2 with ⟨o, g, rfl, hlen, he, hbo⟩ | ⟨i5, ev5, rfl, he, hev⟩
    · obtain ⟨⟨rfl, rfl⟩, rfl⟩ : (aA = some ⟨g, 0, none⟩ ∧ an = 64) ∧ ev = .nilIface := by simpa using he
      have hlst : Lst w1 (.slice (some ⟨g, 0, none⟩) 64 64) o (w5.setCell ⟨ob, 8, none⟩ (.slice (some ⟨g, 0, none⟩) 64 64)) G5 := (Lst.earlier (w0 := w4) (.inr ⟨g, by rw [hlen], hbo⟩) SZ.out.1).put hq5.1.p.b _ _
      have hR : M.run rk st = ((none, { bareS 2 with mode := (M.mode mode0 st).1, large := o }), t) := by
        rw [Q.out]
        rw [run_bind, run_mode, run_bind, show largeA lg = squareA 39 (ordOf 8) lg from rfl, SZ.out.2.2]; rfl
      refine ⟨G5, ?_, hq5.1.out.c0, ?_⟩
      · rw [hR]; exact hq5.1.p.earlier B1.out.1 B1.out.2
      · rw [hR]
        refine ⟨rfl, _, [nilS, nilS, nilS, nilS], hq5.1.out.getD4 (fun j _ => getD_zero4 0 j) (fun j _ => getD_zero4 nilS j), hlst.earlier B1.out.1.size, fun j hj => ?_⟩
        match j, hj with
        | 0, _ => exact Lst.nil
        | 1, _ => exact Lst.nil
        | 2, _ => exact Lst.nil
        | 3, _ => exact Lst.nil
    · obtain ⟨⟨rfl, rfl⟩, rfl⟩ : (aA = none ∧ an = 0) ∧ ev = ev5 := by simpa using he
      have hev2 : ErrV (w5.setCell ⟨ob, 8, none⟩ (.slice none 0 0)) 3 [(⟨#[99, 111, 101, 102]⟩, (i5 : Int))] ev := errv_put hev hq5.2.1.out (by decide) _ _
      have hR : M.run rk st = ((some i5, { bareS 2 with mode := (M.mode mode0 st).1, large := [] }), t) := by
        rw [Q.out]
        rw [run_bind, run_mode, run_bind, show largeA lg = squareA 39 (ordOf 8) lg from rfl, SZ.out.2.2]; rfl
      refine ⟨G5, ?_, hq5.1.out.c0, ?_⟩
      · rw [hR]; exact hq5.1.p.earlier B1.out.1 B1.out.2
      · rw [hR]; exact ⟨_, rfl, hev2⟩
  · replace h3 := h3 rfl
    have Q0 := hid (PQH.out [(v0, l0), (v1, l1), (v2, l2), (v3, l3)] (fun p hp => (h3 p hp).1))
    have Q := hid (show rk = (smallsA [(m0, l0), (m1, l1), (m2, l2), (m3, l3)] [] []).bind fun r => .ret (r.1, { bareS 3 with modes := r.2.1, small := r.2.2 }) by rw [RK.out]; rfl)
    have c0 := Q0.out.out.c0
    have H3 := hid h3
    clear RK PQH h3 h12
    go_enter Tryz.func35, Tryz.ntmps35
    go_wp2_with fail
    generalize (w.alloc (.cells #[.int .i64 k0, .int .i64 mode0, .int .i64 m0, .int .i64 m1, .int .i64 m2, .int .i64 m3, .int .i64 x0, .int .i64 y0, lv, v0, v1, v2, v3] 36)) = w1 at *
    go_loopg [22] 4 (fun j iv wr => ∃ (i : Nat) (s' : σ) (ms : List Int) (ls : List (List Int)) (vs : List Value) (D : List (Value × List Int)) (G : Nat → Prop) (n : Nat), i + j = 4 ∧ iv = .int .i64 i ∧ ms.length = i ∧ ls.length = i ∧ vs.length = i ∧
      PQ At w1 F ob w.heap.size 36 36 k0 mode0 [m0, m1, m2, m3] x0 y0 lv [v0, v1, v2, v3] [(v0, l0), (v1, l1), (v2, l2), (v3, l3)] D 3 0 ms 0 0 nilS vs s' wr G ∧ (∀ j, j < i → (vs.getD j nilS, ls.getD j []) ∈ D) ∧ Ok s' n ∧ n ≤ lim + 10000 * i ∧
      M.run (smallsA [(m0, l0), (m1, l1), (m2, l2), (m3, l3)] [] []) st = M.run (smallsA ([(m0, l0), (m1, l1), (m2, l2), (m3, l3)].drop i) ms ls) s')
    case atStart => exact ⟨0, st, [], [], [], [], F, lim, by omega, rfl, rfl, rfl, rfl, Q0.out, fun j hj => by omega, OKH.out, by omega, rfl⟩
    case round =>
      obtain ⟨i, s', ms, ls, vs, D, G, n, hij, rfl, hm, hls, hvs, hpq, hD, hok, hnl, hrun⟩ := hrel
      have X := hid (And.intro hpq (And.intro hD (And.intro hok hrun)))
      have LEN := hid (And.intro hm (And.intro hls hvs))
      have IJ := hid hij
      clear hm hls hvs
      have hci : i = 4 ∨ i < 4 := by omega
      rcases hci with rfl | hi
      · clear hpq hD hok hrun hij
        go_wp2_with fail
        go_ret
        have hR : M.run rk st = ((none, { bareS 3 with modes := ms, small := ls }), s') := by
          rw [Q.out, run_bind, X.out.2.2.2]
          rfl
        refine ⟨G, ?_, X.out.1.out.c0, ?_⟩
        · rw [hR]; exact X.out.1.p.earlier B1.out.1 B1.out.2
        · rw [hR]
          exact ⟨rfl, nilS, vs, X.out.1.out, Lst.nil, fun j hj => (X.out.1.told _ (X.out.2.1 j hj)).earlier B1.out.1.size⟩
      · obtain ⟨m, l, v, hd, hmm, hvv, hmem⟩ : ∃ m l v, [(m0, l0), (m1, l1), (m2, l2), (m3, l3)].drop i = (m, l) :: [(m0, l0), (m1, l1), (m2, l2), (m3, l3)].drop (i + 1) ∧ [m0, m1, m2, m3].getD i 0 = m ∧ [v0, v1, v2, v3].getD i nilS = v ∧ (v, l) ∈ [(v0, l0), (v1, l1), (v2, l2), (v3, l3)] := by
          match i, hi with
          | 0, _ => exact ⟨m0, l0, v0, rfl, rfl, rfl, by simp⟩
          | 1, _ => exact ⟨m1, l1, v1, rfl, rfl, rfl, by simp⟩
          | 2, _ => exact ⟨m2, l2, v2, rfl, rfl, rfl, by simp⟩
          | 3, _ => exact ⟨m3, l3, v3, rfl, rfl, rfl, by simp⟩
        have hmc := hpq.box.cm i hi
        rw [hmm] at hmc
        have hk0 : (0 : Int) ≤ (i : Int) := by omega
        have hk4 : (i : Int) < 4 := by omega
        have hd4 : decide ((i : Int) < 4) = true := by simp; omega
        have ME := hid (And.intro hd (And.intro hvv (And.intro hmem hmm)))
        have hoc := hpq.out.cm i hi
        have hof := hpq.out.frozen (2 + i)
        have NB := hid (And.intro hnl hi)
        clear hd hvv hmm hmem hpq hD hok hrun hij hi
        generalize hms' : ms.getD i 0 = mo at *
        clear hms'
        have Xd := hid (X.out.1.below H (Below.refl wr.heap.size wr).drew)
        go_wp2_with fail
        go_region_held_law (fun W => W.cell? ⟨w.heap.size, 2 + i, none⟩ = some (.int .i64 m)) (first | exact hbp3 | exact hbc3 | exact hmc)
          (first
            | (go_at_call 58
               refine (HM m s' _ G n (by exact Xd.out.p.a) X.out.2.2.1 (by have := NB.out; omega)).mono ?_
               rintro e w3 ⟨rfl, hm3⟩
               obtain ⟨G3, hq3⟩ := Xd.out.moved hm3
               have hpp3 := hq3.put H (2 + i) (.int .i64 (M.mode m s').1) (hq3.out.putM i LEN.out.1.symm NB.out.2 _)
               have Q3 := hid hq3
               have P3 := hid hpp3
               have hbc3 : w3.cell? ⟨w.heap.size, 2 + i, none⟩ = some (.int .i64 m) := by rw [hq3.box.cm i NB.out.2, ME.out.2.2.2]
               have hbp3 : (w3.setCell ⟨ob, 2 + i, none⟩ (.int .i64 (M.mode m s').1)).cell? ⟨w.heap.size, 2 + i, none⟩ = some (.int .i64 m) := by rw [hpp3.box.cm i NB.out.2, ME.out.2.2.2]
               clear hpp3
               have hoc3 := hq3.out.cm i NB.out.2
               have hof3 := hq3.out.frozen (2 + i)
               clear hm3 hq3))
        clear hbc3 hbp3 hoc3 hof3 hmc hoc hof Xd
        obtain ⟨n4, hn4, hok4⟩ := ok_mode H m s' n X.out.2.2.1
        have hvc := P3.out.box.cs i NB.out.2
        rw [ME.out.2.1] at hvc
        have hl := H3.out _ ME.out.2.2.1
        have OK4 := hid (And.intro hok4 (And.intro hn4 hl.2))
        have hsd : Sized l 4 14 := .inl ⟨rfl, rfl, hl.2.1⟩
        obtain ⟨A, cp, hvf, _⟩ := hl.1.n.n.form
        rw [hl.2.1] at hvf
        subst hvf
        have SD := hid hsd
        clear hok4 hn4 hl hsd
        obtain ⟨ms4, hms4⟩ : ∃ q, q = ms ++ [(M.mode m s').1] := ⟨_, rfl⟩
        rw [← hms4] at P3
        have MS4 := hid hms4
        clear hms4
        generalize w3.setCell ⟨ob, 2 + i, none⟩ (.int .i64 (M.mode m s').1) = w4 at *
        have P3d := hid (P3.out.below H (Below.refl w4.heap.size w4).drew)
        go_wp2_with fail
        go_region_held_law (fun W => W.cell? ⟨w.heap.size, 9 + i, none⟩ = some (.slice A 16 cp)) (first | exact hbp5 | exact hbc5 | exact hvc)
          (first
            | (go_at_call 59
               refine (HC 4 14 (.slice A 16 cp) l SD.out OK4.out.2.2.2 (M.mode m s').2 _ G3 n4 (by exact P3d.out.p.a) OK4.out.1 (by have := NB.out; have := OK4.out.2.1; omega) (by exact (P3d.out.ls _ ME.out.2.2.1).n)).mono ?_
               rintro e w5 ⟨G5, hcw, hans⟩
               obtain ⟨aA, an, ev, rfl⟩ := ans_formD hans
               have hq5 := P3d.out.code hcw
               have hpp5 := hq5.put H (9 + i) (.slice aA an an) (hq5.out.putS i LEN.out.2.2.symm NB.out.2 (.slice aA an an))
               have Q5 := hid (And.intro hpp5 (And.intro hq5 hans))
               have hbc5 : w5.cell? ⟨w.heap.size, 9 + i, none⟩ = some (.slice A 16 cp) := by rw [hq5.box.cs i NB.out.2, ME.out.2.1]
               have hbp5 : (w5.setCell ⟨ob, 9 + i, none⟩ (.slice aA an an)).cell? ⟨w.heap.size, 9 + i, none⟩ = some (.slice A 16 cp) := by rw [hpp5.box.cs i NB.out.2, ME.out.2.1]
               have hoc5 := hq5.out.cs i NB.out.2
               have hof5 := hq5.out.frozen (9 + i)
               clear hpp5 hq5 hcw hans))
        clear hbc5 hbp5 hoc5 hof5 hvc P3d
        obtain ⟨n6, hn6, hok6⟩ := ok_square H SD.out (M.mode m s').2 n4 OK4.out.1
        have hsqok := ans_square (M := M) SD.out (M.mode m s').2
        rw [OK4.out.2.2.1] at hsqok
        have hrun := X.out.2.2.2
        rw [ME.out.1] at hrun
        obtain ⟨r, t, hr⟩ : ∃ r t, M.run (squareA 14 (ordOf 4) l) (M.mode m s').2 = (r, t) := ⟨_, _, rfl⟩
        have hq5 := Q5.out
        rw [hr] at hq5 hsqok hok6
        have hsize : w1.heap.size ≤ w4.drew.heap.size := P3.out.p.o.size
        rcases sq_ans hsqok hq5.2.2 with ⟨o, g, rfl, hlen, he, hbo⟩ | ⟨i5, ev5, rfl, he, hev⟩
        · obtain ⟨⟨rfl, rfl⟩, rfl⟩ : (aA = some ⟨g, 0, none⟩ ∧ an = 16) ∧ ev = .nilIface := by simpa using he
          have hlst : Lst w1 (.slice (some ⟨g, 0, none⟩) 16 16) o (w5.setCell ⟨ob, 9 + i, none⟩ (.slice (some ⟨g, 0, none⟩) 16 16)) G5 := (Lst.earlier (w0 := w4.drew) (.inr ⟨g, by rw [hlen], hbo⟩) hsize).put hq5.1.p.b _ _
          have hnew := hq5.1.add hlst
          have hrun2 := hrun.trans (smalls_none hr)
          rw [← MS4.out] at hrun2
          have FIN := hid (And.intro hnew (And.intro hok6 (And.intro hn6 hrun2)))
          clear hnew hok6 hn6 hrun2 hlst hq5 hsqok hr hsize hbo he hrun Q5
          go_wp2_with fail
          go_roundg (gk - 1)
          case measure => have := IJ.out; have := NB.out.2; omega
          case rel =>
            refine ⟨i + 1, t, ms4, ls ++ [o], vs ++ [.slice (some ⟨g, 0, none⟩) 16 16], (.slice (some ⟨g, 0, none⟩) 16 16, o) :: D, G5, n6, by have := IJ.out; have := NB.out.2; omega, by go_num, ?_, ?_, ?_, FIN.out.1, fun j hj => ?_, FIN.out.2.1, ?_, FIN.out.2.2.2⟩
            · rw [MS4.out, List.length_append, LEN.out.1]; rfl
            · rw [List.length_append, LEN.out.2.1]; rfl
            · rw [List.length_append, LEN.out.2.2]; rfl
            · rw [getD_snoc, getD_snoc, LEN.out.2.1, LEN.out.2.2]
              by_cases e : j = i
              · rw [if_pos e, if_pos e]; exact List.mem_cons_self
              · rw [if_neg e, if_neg e]; exact List.mem_cons_of_mem _ (X.out.2.1 j (by omega))
            · have := FIN.out.2.2.1; have := OK4.out.2.1; have := NB.out.1; omega
        · obtain ⟨⟨rfl, rfl⟩, rfl⟩ : (aA = none ∧ an = 0) ∧ ev = ev5 := by simpa using he
          obtain ⟨tv, xv, hevf⟩ := hev.form
          have hev2 : ErrV (w5.setCell ⟨ob, 9 + i, none⟩ (.slice none 0 0)) 3 [(⟨#[99, 111, 101, 102]⟩, (i5 : Int))] ev := errv_put hev hq5.2.1.out (by decide) _ _
          have hR : M.run rk st = ((some i5, { bareS 3 with modes := ms ++ [(M.mode m s').1], small := ls }), t) := by
            rw [Q.out, run_bind, hrun, smalls_some hr]
            rfl
          subst hevf
          have FIN := hid (And.intro hq5.1 (And.intro hev2 hR))
          clear hev2 hR hev hq5 hsqok hr hsize he hrun hok6 hn6 Q5
          go_wp2_with fail
          go_ret
          refine ⟨G5, ?_, FIN.out.1.out.c0, ?_⟩
          · rw [FIN.out.2.2]; exact FIN.out.1.p.earlier B1.out.1 B1.out.2
          · rw [FIN.out.2.2]; exact ⟨_, rfl, FIN.out.2.1⟩
end
end Go.Proofs.YtkkgpdejmcpcpaaGreatDoor

