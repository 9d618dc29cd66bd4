/- The walk. -/
import Derived.Test.YtkkimgjinbaemaaGreatKba
namespace Go.Proofs.YtkkimgjinbaemaaGreat
open Go.RowKit
set_option linter.unusedVariables false
set_option linter.unusedSimpArgs false
set_option maxRecDepth 100000
set_option maxHeartbeats 4000000
theorem Abl (a : List Int) (b : List Int) (h1 : a.length <= 1000000) (h2 : b.length <= 1000000) : Ct 229 [.mY a, .mY b] (fun d : Bool => .lb d) (fun d => True) := by
 refine Cb Tryz.func229 ?_
 refine VX.R ?_
 refine VX.S (fun K kk => by simp [go_sem, Wo]; exact kk) ?_
 refine VX.ret (Co ?_); simp [go_sem]
 exact ⟨_, by first | rfl | simp [go_sem], trivial⟩
theorem Agf {l : List Dc} {i : Nat} {x : Dc} (h : ∀ t ∈ l, t.sec.length <= 1000000) (hx : x.sec.length <= 1000000) : ∀ t ∈ l.set i x, t.sec.length <= 1000000 := fun t ht => by
 rcases Bi ht with h1 | h1
 ·exact h t h1
 subst h1; exact hx
theorem Al4 {n : Nat} {a b c d : Int} {u : Bool} : ∀ t ∈ List.replicate n (⟨u, [], a, b, c, d⟩ : Dc), t.sec.length <= 1000000 := fun t ht => by
 rw [(List.mem_replicate.1 ht).2]
 simp
theorem Ok (a : TAg) (h : a.sec.length <= 1000000) : ∃ d : List Dc, PP 111 [] [a.g] [.row 73 6 false false (Ni d)] (.own 0 d.length) /\ (d.length = 8 /\ ∀ t ∈ d, t.sec.length <= 1000000) := by
 refine Km (D := List Dc) (F := fun d => .own 0 d.length) (S := fun d => [.row 73 6 false false (Ni d)]) (Q := fun d => d.length = 8 /\ ∀ t ∈ d, t.sec.length <= 1000000) Tryz.func111 rfl rfl rfl (by simp [Tryz.ntmps111]) ?_
 refine VX.R ?_
 refine VX.H ok0 <| .seq ?_
 refine VX.R <| .block ?_
 refine VX.rangeE 8 (fun i1 (y1 : (List Dc)) => ⟨[(1, .ptr 0 0), (3, .own 1 y1.length), (7, .li 8), (8, .li i1)], [.box 60 [.mY a.sec, .li a.ri, .li a.cls, .mI a.lims, .li a.rq, .li a.se, .li a.ra, .li a.bu], .row 73 6 false false (Ni y1)]⟩) (fun i1 y1 => y1.length = 8 /\ ∀ t ∈ y1, t.sec.length <= 1000000) (List.replicate 8 ⟨false, [], 0, 0, 0, 0⟩) (wk ok0 [0, 1]) (⟨rfl, Al4⟩) fun i1 y1 hi1 hy1 => ?_
 refine VX.R <| .seq ?_
 refine VX.C ?_ ?_ <;> intro h9 <;> simp [go_sem] at h9
 ·refine VX.skip <| .seq <| .block <| .R ?_
  obtain ⟨e1, H1⟩ := gx y1 i1
  refine VX.L1 H1 (P4) ?_
  refine VX.H1 H1 ?_
  exact ⟨by omega, ((y1).set i1 Nf), ⟨by simp; omega, Agf hy1.2 (by simp [Nf])⟩, wk (cj2 (Bq ((i1 : Int) + 1)) H1) [0, 1]⟩
 refine VX.exit ?_
 obtain ⟨e2, H2⟩ := gx y1 0
 refine VX.E (fun K kk => by simp [go_sem, H2]; refine .lo (B8.froz (B6 _ (by first | (simp; omega) | (simp; assumption)) (by first | (simp [T.plain]; done) | (rw [Am]; intro e he; repeat (first | replace he := Aq he | replace he := Ay he); obtain ⟨x, _, rfl⟩ := A4.1 he; rfl)))) rfl (by simp [AV.cln, Cp]) ?_; simp [go_sem, H2]; (repeat first | exact kk | refine aK ?_)) ?_
 refine VX.H H2 ?_
 exact .ret ⟨(y1).set 0 ⟨true, a.sec, (-1), a.ri, a.cls, 0⟩, rW H2 [1], ⟨by simp; omega, Agf hy1.2 h⟩⟩
noncomputable def Gx (a : TAg) (h : a.sec.length <= 1000000) : List Dc := (Ok a h).choose
theorem Abq (a : TAg) (h : a.sec.length <= 1000000) : PP 111 [] [a.g] [.row 73 6 false false (Ni (Gx a h))] (.own 0 (Gx a h).length) := (Ok a h).choose_spec.1
theorem Aft (a : TAg) (h : a.sec.length <= 1000000) : PP 111 [] [a.g] [] (.mTok (Gx a h)) := (Abq a h).frozA (by simp [go_sem])
theorem Ags (a : TAg) (h : a.sec.length <= 1000000) : (Gx a h).length = 8 /\ ∀ t ∈ (Gx a h), t.sec.length <= 1000000 := (Ok a h).choose_spec.2
theorem I9 (l : List Dc) (hl : l.length <= 1000000) (ht : ∀ t ∈ l, t.sec.length <= 1000000) : PP 183 [] [.mTok l] [.row 73 6 false false (Ni l)] (.own 0 l.length) := by
 refine B0 Tryz.func183 ?_
 refine VW.R ?_
 refine VW.S (fun K kk => by simp [go_sem]; refine .lo (Oy _ (by simpa using hl)) rfl (by simp) ?_; simp [go_sem]; exact kk) <| .seq ?_
 refine VW.R <| .block ?_
 refine VW.range l.length (fun i1 => ⟨[(3, .own 0 l.length), (8, .li l.length), (9, .li i1)], [.row 73 6 false false (Ni l)]⟩) (wk ok0 [0]) fun i1 hi1 => ?_
 refine VW.R <| .seq ?_
 refine VW.C ?_ ?_ <;> intro h10 <;> simp [go_sem] at h10
 ·have hx : l[i1]? = some l[i1] := Aa h10
  generalize l[i1] = t at hx
  have hs := Du (f := Dc.t) hx
  simp only [Dc.t] at hs
  refine VW.skip <| .seq <| .block <| .R ?_
  refine VW.S1 (fun K kk => by simp [go_sem, hx, hs]; (repeat refine aK ?_); refine .lo (B8.froz (B6 _ (by simpa using ht t (Ac hx)) (by simp [T.plain]))) rfl (by simp) ?_; simp [go_sem, hx, hs]; (repeat first | exact kk | refine aK ?_)) ?_
  refine VW.R1 ?_
  refine ⟨by omega, [0], Bp (by decide) ?_ ?_, by simp⟩
  ·simp [go_sem, Bq ((i1 : Int) + 1)]
  simp [go_sem]
 refine VW.exit <| .R ?_
 exact .ret (rW ok0 [0])
theorem K9 (x : I4) (hb : Rd x) : PP 165 [] [x.g] [] (x.g) := by
 refine B0 Tryz.func165 ?_
 have hb1 := hb.toks
 refine VW.R ?_
 refine VW.L ok0 (Kc x.ag hb.sec hb.lims) ?_
 refine VW.S (fun K kk => by simp [go_sem]; refine .lo (Oy _ (by simpa using hb.toks)) rfl (by simp) ?_; simp [go_sem]; exact kk) <| .seq ?_
 refine VW.R <| .block ?_
 refine VW.range x.toks.length (fun i1 => ⟨[(1, .ptr 0 0), (2, .ptr 1 0), (14, .li x.toks.length), (15, .li i1)], [.box 66 [.li x.num, .mY x.ag.sec, .li x.ag.ri, .li x.ag.cls, .mI x.ag.lims, .li x.ag.rq, .li x.ag.se, .li x.ag.ra, .li x.ag.bu, .own 2 x.toks.length, .mVeh x.vehs, .li x.bk.lv, .li x.bk.ra, .li x.bk.bu], .box 66 [.li 0, .nil 1, .li 0, .li 0, .nil 1, .li 0, .li 0, .li 0, .li 0, .nil 6, .nil 2, .li 0, .li 0, .li 0], .row 73 6 false false (Ni x.toks)]⟩) (wk ok0 [0, 1, 2]) fun i1 hi1 => ?_
 refine VW.R <| .seq ?_
 refine VW.C ?_ ?_ <;> intro h16 <;> simp [go_sem] at h16
 ·have hx : x.toks[i1]? = some x.toks[i1] := Aa h16
  generalize x.toks[i1] = t at hx
  have hs := Du (f := Dc.t) hx
  simp only [Dc.t] at hs
  refine VW.skip <| .seq <| .block <| .R ?_
  refine VW.E1 (fun K kk => by simp [go_sem, hx, hs]; (repeat refine aK ?_); refine .lo (B8.froz (B6 _ (by simpa using hb.tsec t (Ac hx)) (by simp [T.plain]))) rfl (by simp) ?_; simp [go_sem, hx, hs]; (repeat first | exact kk | refine aK ?_)) ?_
  refine VW.R1 ?_
  refine ⟨by omega, [0, 1, 2], Bp (by decide) ?_ ?_, by simp⟩
  ·simp [go_sem, Bq ((i1 : Int) + 1)]
  simp [go_sem]
 refine VW.exit ?_
 refine VW.freeze 2 (by simp [go_sem, Db]) ?_
 simp [go_sem]
 refine VW.S (fun K kk => by simp [go_sem]; refine .lo (B8.froz (Q0 _ (by simpa using hb.vehs) (by simp [T.plain, Eg.t]))) rfl (by simp) ?_; simp [go_sem]; exact kk) ?_
 refine VW.R ?_
 exact .ret (rL h16)
theorem Aql {l : List Dc} {s : Int} {t : Dc} (h : Ua l s 0 = true) (hs : s ≠ 0) (ht : l[s.toNat]? = some t) : 0 <= t.par /\ t.par < l.length := by
 unfold Ua Q4 at h
 rw [Ng] at h
 split at h
 ·rw [List.contains_cons] at h
  have e : (0 == s) = false := by simpa using fun e => hs e.symm
  rw [e, Bool.false_or, Ng] at h
  split at h
  ·rename_i hu
   have hp : Af9 l s = t.par := by simp [Af9, ht]
   rw [hp] at hu
   obtain ⟨h0, t', h1, _⟩ := Nd hu
   have := (Ab.1 h1).1
   omega
  simp at h
 simp at h
theorem Ix (l : List Dc) (hl : l.length <= 1000000) (ht : ∀ t ∈ l, t.sec.length <= 1000000) : Ct 253 [.mTok l] (fun d : Bool => .lb d) (fun d => d = true -> l.length = 8) := by
 refine Cb Tryz.func253 ?_
 refine VX.R <| .seq ?_
 refine VX.R ?_
 refine VX.C ?_ ?_ <;> intro h9 <;> simp [go_sem] at h9
 ·refine VX.R ?_
  exact .ret (fin ok0 false (by first | (intro _; omega) | (simp; done)))
 refine VX.skip ?_
 obtain ⟨e1, H1⟩ := gx l 0
 refine VX.H H1 <| .seq ?_
 refine VX.region_seq (by rfl) fun K1 hK1 => ?_
 simp [go_sem, H1]
 refine Bz (by simp [go_sem]) (by simp [go_sem]) ?_
 simp [go_sem, H1]
 first | refine .lo (Tg e1) rfl (by simp [AV.cln, Cp]) ?_ | refine .skip ?_
 simp [go_sem, H1]
 refine hK1 _ ?_; clear hK1
 refine VX.C ?_ ?_ <;> intro h30 <;> simp [go_sem] at h30
 ·refine VX.H H1 ?_
  exact .ret (fin H1 false (by first | (intro _; omega) | (simp; done)))
 refine VX.skip <| .seq <| .H H1 <| .block ?_
 refine VX.whileE (fun (y1 : Int) => ⟨[(0, .mTok l), (4, .li y1)], []⟩) (fun y1 => 1 <= y1 /\ y1 <= l.length) (fun y1 => (l.length - y1).toNat) (1) (wk H1 []) (by omega) fun y1 hy1 => ?_
 refine VX.seq <| .H H1 ?_
 refine VX.C ?_ ?_ <;> intro h34 <;> simp [go_sem] at h34
 ·refine VX.skip <| .seq <| .block ?_
  obtain ⟨e2, H2⟩ := gx l y1.toNat
  refine VX.H (cj2 H1 H2) <| .seq ?_
  refine VX.H (cj2 H1 H2) ?_
  refine VX.C ?_ ?_ <;> intro h43 <;> simp [go_sem] at h43
  ·refine VX.seq <| .L (cj2 H1 H2) (Zn e2) ?_
   refine VX.C ?_ ?_ <;> intro h46 <;> simp [go_sem] at h46
   ·refine VX.H (cj2 H1 H2) ?_
    exact .ret (fin (cj2 H1 H2) false (by first | (intro _; omega) | (simp; done)))
   refine VX.skip <| .exit ?_
   have hw3 := Bq (y1 + 1 : Int)
   refine VX.H1 (cj3 H1 H2 hw3) ?_
   refine ⟨((y1 + 1)), ?_, ?_, [], Bp (by decide) ?_ ?_, by simp⟩
   ·omega
   ·omega
   all_goals simp [go_sem, H1, H2, hw3]
  refine VX.skip <| .seq ?_
  refine VX.region_seq (by rfl) fun K1 hK1 => ?_
  simp [go_sem, H1, H2]
  refine .l (Tg e2) ?_
  simp [go_sem, H1, H2]
  refine Bz (by simp [go_sem]) (by simp [go_sem]) ?_
  simp [go_sem, H1, H2]
  first | refine .lo (Pf l y1 0) rfl (by simp [AV.cln, Cp]) ?_ | refine .skip ?_
  simp [go_sem, H1, H2]
  refine hK1 _ ?_; clear hK1
  refine VX.C ?_ ?_ <;> intro h55 <;> simp [go_sem] at h55
  ·refine VX.H (cj2 H1 H2) ?_
   exact .ret (fin (cj2 H1 H2) false (by first | (intro _; omega) | (simp; done)))
  have hpar := Aql (t := e2) (by first | exact h55.2 | exact h55) (by omega) H2
  refine VX.skip ?_
  obtain ⟨e4, H4⟩ := gx l e2.par.toNat
  refine VX.H (cj3 H1 H2 H4) ?_
  refine VX.region_seq (by rfl) fun K1 hK1 => ?_
  simp [go_sem, H1, H2, H4]
  refine .l (Qx e2.ri e4.ri) ?_
  simp [go_sem, H1, H2, H4]
  refine Bz (by simp [go_sem]) (by simp [go_sem]) ?_
  simp [go_sem, H1, H2, H4]
  first | refine .lo (Ov e2.unt e4.unt) rfl (by simp [AV.cln, Cp]) ?_ | refine .skip ?_
  simp [go_sem, H1, H2, H4]
  refine hK1 _ ?_; clear hK1
  refine VX.C ?_ ?_ <;> intro h80 <;> simp [go_sem] at h80
  ·refine VX.H (cj3 H1 H2 H4) ?_
   exact .ret (fin (cj3 H1 H2 H4) false (by first | (intro _; omega) | (simp; done)))
  refine VX.skip ?_
  have hw5 := Bq (y1 + 1 : Int)
  refine VX.H1 (cj4 H1 H2 H4 hw5) ?_
  refine ⟨((y1 + 1)), ?_, ?_, [], Bp (by decide) ?_ ?_, by simp⟩
  ·omega
  ·omega
  all_goals simp [go_sem, H1, H2, H4, hw5]
 refine VX.exit <| .H H1 ?_
 exact .ret (fin H1 true (by first | (intro _; omega) | (simp; done)))
noncomputable def Tp (l : List Dc) (hl : l.length <= 1000000) (ht : ∀ t ∈ l, t.sec.length <= 1000000) : Bool := (got (Ix l hl ht)).choose
theorem Abp (l : List Dc) (hl : l.length <= 1000000) (ht : ∀ t ∈ l, t.sec.length <= 1000000) : PP 253 [] [.mTok l] [] (.lb (Tp l hl ht)) := (got (Ix l hl ht)).choose_spec.1
theorem Ab2 (l : List Dc) (hl : l.length <= 1000000) (ht : ∀ t ∈ l, t.sec.length <= 1000000) : (Tp l hl ht) = true -> l.length = 8 := (got (Ix l hl ht)).choose_spec.2
theorem Ib {l : List Dc} {i : Nat} {x : Dc} (h : ∀ t ∈ l, t.sec.length <= 1000000) (hx : x.sec.length <= 1000000) : ∀ t ∈ l.set i x, t.sec.length <= 1000000 := fun t ht => by
 rcases Bi ht with h1 | h1
 ·exact h t h1
 subst h1; exact hx
theorem Rf (l : List Dc) (p : Int) (ri : Int) (c : Int) (life : Int) (sec : List Int) (now : Int) (hl : l.length <= 1000000) (ht : ∀ t ∈ l, t.sec.length <= 1000000) (hs : sec.length <= 1000000) : Ct 256 [.mTok l, .li p, .li ri, .li c, .li life, .mY sec, .li now] (fun d : List Dc × Int × Int => .tup [.mTok d.1, .li d.2.1, .li d.2.2]) (fun d => d.1.length <= l.length /\ (∀ t ∈ d.1, t.sec.length <= 1000000)) := by
 refine Cb Tryz.func256 ?_
 have hi := Aap (fun t : Dc => !t.used) l
 refine VX.R <| .seq ?_
 obtain ⟨Y1, cY1, qY1⟩ := got (Ix l (by first | assumption | omega) (by first | assumption | omega))
 refine VX.L ok0 cY1 ?_
 refine VX.C ?_ ?_ <;> intro h36 <;> simp [go_sem] at h36
 ·refine VX.R ?_
  exact .ret (fin ok0 ([], 0, 1) (by first | exact ⟨by simp, Ib ht (by exact hs)⟩ | exact ⟨Ae _, fun t h => absurd h A8⟩))
 refine VX.skip <| .seq <| .L ok0 (Ms l p) ?_
 refine VX.C ?_ ?_ <;> intro h40 <;> simp [go_sem] at h40
 ·refine VX.R ?_
  exact .ret (fin ok0 ([], 0, 12) (by first | exact ⟨by simp, Ib ht (by exact hs)⟩ | exact ⟨Ae _, fun t h => absurd h A8⟩))
 obtain ⟨hp0, tp, hp1, _⟩ := Nd (by simpa using h40)
 have hp2 := (Ab.1 hp1).1
 refine VX.skip ?_
 obtain ⟨e1, H1⟩ := gx l p.toNat
 refine VX.H H1 <| .seq ?_
 refine VX.L H1 (Qx ri e1.ri) ?_
 refine VX.C ?_ ?_ <;> intro h67 <;> simp [go_sem] at h67
 ·refine VX.H H1 ?_
  exact .ret (fin H1 ([], 0, 8) (by first | exact ⟨by simp, Ib ht (by exact hs)⟩ | exact ⟨Ae _, fun t h => absurd h A8⟩))
 refine VX.skip <| .H H1 <| .seq ?_
 refine VX.H H1 ?_
 refine VX.C ?_ ?_ <;> intro h69 <;> simp [go_sem] at h69
 ·refine VX.H1 H1 <| .seq ?_
  refine VX.L H1 (Ov (IntKind.i64.wrap (now + life)) e1.unt) ?_
  refine VX.C ?_ ?_ <;> intro h76 <;> simp [go_sem] at h76
  ·refine VX.H H1 ?_
   exact .ret (fin H1 ([], 0, 8) (by first | exact ⟨by simp, Ib ht (by exact hs)⟩ | exact ⟨Ae _, fun t h => absurd h A8⟩))
  refine VX.skip <| .S (fun K kk => by simp [go_sem, H1]; refine .lo (N5 l _ [] (fun t => !t.used) hl Pp Pg) (by simp [go_sem]) (by simp [AV.cln, Cp]) ?_; simp [go_sem, H1]; exact kk) <| .seq ?_
  refine VX.H H1 ?_
  refine VX.C ?_ ?_ <;> intro h80 <;> simp [go_sem] at h80
  ·refine VX.H H1 ?_
   exact .ret (fin H1 ([], 0, 10) (by first | exact ⟨by simp, Ib ht (by exact hs)⟩ | exact ⟨Ae _, fun t h => absurd h A8⟩))
  refine VX.skip <| .L H1 (I9 l (by first | assumption | omega) (by first | assumption | omega)) ?_
  obtain ⟨e2, H2⟩ := gx l ((Fd (fun t : Dc => !t.used) l).toNat)
  refine VX.S (fun K kk => by simp [go_sem, H1, H2]; refine .lo (B8.froz (B6 _ (by first | (simp; omega) | (simp; assumption)) (by simp [T.plain]))) rfl (by simp [AV.cln, Cp]) ?_; simp [go_sem, H1, H2]; (repeat first | exact kk | refine aK ?_)) ?_
  refine VX.H (cj2 H1 H2) ?_
  refine VX.Z ok0 1 ?_
  exact .ret (fin (cj2 H1 H2) ((l).set ((Fd (fun t : Dc => !t.used) l).toNat) ⟨true, sec, p, ri, c, IntKind.i64.wrap (now + life)⟩, (Fd (fun t : Dc => !t.used) l), 0) (by first | exact ⟨by simp, Ib ht (by exact hs)⟩ | exact ⟨Ae _, fun t h => absurd h A8⟩))
 refine VX.skip <| .seq <| .L H1 (Ov 0 e1.unt) ?_
 refine VX.C ?_ ?_ <;> intro h76 <;> simp [go_sem] at h76
 ·refine VX.H H1 ?_
  exact .ret (fin H1 ([], 0, 8) (by first | exact ⟨by simp, Ib ht (by exact hs)⟩ | exact ⟨Ae _, fun t h => absurd h A8⟩))
 refine VX.skip <| .S (fun K kk => by simp [go_sem, H1]; refine .lo (N5 l _ [] (fun t => !t.used) hl Pp Pg) (by simp [go_sem]) (by simp [AV.cln, Cp]) ?_; simp [go_sem, H1]; exact kk) <| .seq ?_
 refine VX.H H1 ?_
 refine VX.C ?_ ?_ <;> intro h80 <;> simp [go_sem] at h80
 ·refine VX.H H1 ?_
  exact .ret (fin H1 ([], 0, 10) (by first | exact ⟨by simp, Ib ht (by exact hs)⟩ | exact ⟨Ae _, fun t h => absurd h A8⟩))
 refine VX.skip <| .L H1 (I9 l (by first | assumption | omega) (by first | assumption | omega)) ?_
 obtain ⟨e3, H3⟩ := gx l ((Fd (fun t : Dc => !t.used) l).toNat)
 refine VX.S (fun K kk => by simp [go_sem, H1, H3]; refine .lo (B8.froz (B6 _ (by first | (simp; omega) | (simp; assumption)) (by simp [T.plain]))) rfl (by simp [AV.cln, Cp]) ?_; simp [go_sem, H1, H3]; (repeat first | exact kk | refine aK ?_)) ?_
 refine VX.H (cj2 H1 H3) ?_
 refine VX.Z ok0 1 ?_
 exact .ret (fin (cj2 H1 H3) ((l).set ((Fd (fun t : Dc => !t.used) l).toNat) ⟨true, sec, p, ri, c, 0⟩, (Fd (fun t : Dc => !t.used) l), 0) (by first | exact ⟨by simp, Ib ht (by exact hs)⟩ | exact ⟨Ae _, fun t h => absurd h A8⟩))
theorem Zf (l : List Dc) (slot : Int) (hl : l.length <= 1000000) (ht : ∀ t ∈ l, t.sec.length <= 1000000) : Ct 234 [.mTok l, .li slot] (fun d : List Dc × Int => .tup [.mTok d.1, .li d.2]) (fun d => d.1.length <= l.length /\ (∀ t ∈ d.1, t.sec.length <= 1000000)) := by
 refine Cb Tryz.func234 ?_
 refine VX.R <| .seq ?_
 refine VX.L ok0 (Abp l (by first | assumption | omega) (by first | assumption | omega)) ?_
 refine VX.C ?_ ?_ <;> intro h10 <;> simp [go_sem] at h10
 ·refine VX.R ?_
  refine VX.ret (Co ?_); simp [go_sem]
  exact ⟨([], 1), by first | rfl | simp [go_sem], (by first | exact ⟨Nat.le_of_eq hy1.1, hy1.2⟩ | exact ⟨Ae _, fun t h => absurd h A8⟩)⟩
 have h8 := Ab2 l hl ht (by simpa using h10)
 refine VX.skip <| .seq <| .R ?_
 refine VX.C ?_ ?_ <;> intro h16 <;> simp [go_sem] at h16
 ·refine VX.R ?_
  refine VX.ret (Co ?_); simp [go_sem]
  exact ⟨([], 8), by first | rfl | simp [go_sem], (by first | exact ⟨Nat.le_of_eq hy1.1, hy1.2⟩ | exact ⟨Ae _, fun t h => absurd h A8⟩)⟩
 refine VX.skip <| .seq ?_
 obtain ⟨e1, H1⟩ := gx l slot.toNat
 refine VX.H H1 ?_
 refine VX.C ?_ ?_ <;> intro h22 <;> simp [go_sem] at h22
 ·refine VX.H H1 ?_
  refine VX.ret (Co ?_); simp [go_sem, H1]
  exact ⟨([], 12), by first | rfl | simp [go_sem], (by first | exact ⟨Nat.le_of_eq hy1.1, hy1.2⟩ | exact ⟨Ae _, fun t h => absurd h A8⟩)⟩
 refine VX.skip <| .L H1 (I9 l (by first | assumption | omega) (by first | assumption | omega)) <| .seq ?_
 refine VX.H H1 <| .block ?_
 refine VX.rangeE l.length (fun i1 (y1 : (List Dc)) => ⟨[(0, .mTok l), (1, .li slot), (6, .own 0 y1.length), (26, .li l.length), (27, .li i1)], [.row 73 6 false false (Ni y1)]⟩) (fun i1 y1 => y1.length = l.length /\ ∀ t ∈ y1, t.sec.length <= 1000000) (l) ⟨[0], Bp (by decide) ?_ ?_, by simp⟩ (⟨rfl, ht⟩) fun i1 y1 hi1 hy1 => ?_
 ·simp [go_sem, H1]
 ·simp [go_sem, H1]
 refine VX.H H1 <| .seq ?_
 refine VX.C ?_ ?_ <;> intro h28 <;> simp [go_sem] at h28
 ·refine VX.skip <| .seq <| .block <| .H H1 ?_
  refine VX.L H1 (Pf l i1 slot) ?_
  refine VX.C ?_ ?_ <;> intro h33 <;> simp [go_sem] at h33
  ·obtain ⟨e2, H2⟩ := gx y1 i1
   refine VX.L1 (cj2 H1 H2) (P4) ?_
   refine VX.H1 (cj2 H1 H2) ?_
   refine ⟨by omega, ((y1).set i1 Nf), ?_, [0], Bp (by decide) ?_ ?_, by simp⟩
   ·first | exact hy1 | exact ⟨(List.length_set ..).trans hy1.1, Ib hy1.2 (by simp [Nf])⟩
   all_goals simp [go_sem, Bq ((i1 : Int) + 1), H1, H2]
  refine VX.skip <| .H1 H1 ?_
  refine ⟨by omega, (y1), ?_, [0], Bp (by decide) ?_ ?_, by simp⟩
  ·first | exact hy1 | exact ⟨(List.length_set ..).trans hy1.1, Ib hy1.2 (by simp [Nf])⟩
  all_goals simp [go_sem, Bq ((i1 : Int) + 1), H1]
 refine VX.exit <| .H H1 ?_
 refine VX.F 0 ?_
 simp [go_sem]
 refine VX.ret (Co ?_); simp [go_sem, H1]
 exact ⟨(y1, 0), by first | rfl | simp [go_sem], (by first | exact ⟨Nat.le_of_eq hy1.1, hy1.2⟩ | exact ⟨Ae _, fun t h => absurd h A8⟩)⟩
theorem M7 (m : B3) (h : 1 <= m.args.length) (h2 : m.args.length <= 1000000) : Ct 235 [m.g] (fun d : B3 => d.g) (fun d => d.kind = 14 /\ d.tok = [] /\ d.data = [] /\ d.args.length = 2) := by
 refine Cb Tryz.func235 ?_
 refine VX.R ?_
 obtain ⟨e1, H1⟩ := gx m.args 0
 refine VX.G H1 ?_
 refine VX.Z ok0 2 ?_
 exact .ret (fin H1 ⟨14, [], [m.kind, e1], []⟩ (by simp))
noncomputable def Er (m : B3) (h : 1 <= m.args.length) (h2 : m.args.length <= 1000000) : B3 := (got (M7 m h h2)).choose
theorem Nc (m : B3) (h : 1 <= m.args.length) (h2 : m.args.length <= 1000000) : PP 235 [] [m.g] [] (.agg ((Er m h h2).a false)) := (got (M7 m h h2)).choose_spec.1
theorem Aad (m : B3) (h : 1 <= m.args.length) (h2 : m.args.length <= 1000000) : (Er m h h2).kind = 14 /\ (Er m h h2).tok = [] /\ (Er m h h2).data = [] /\ (Er m h h2).args.length = 2 := (got (M7 m h h2)).choose_spec.2
theorem M8 (n : Int) (a : TAg) (h1 : a.sec.length <= 1000000) (h2 : a.lims.length <= 1000000) : Ct 82 [.li n, a.g] (fun d : I4 => d.g) (fun d => d.num = n /\ d.ag = a /\ d.toks = Gx a h1 /\ d.vehs = [] /\ d.bk = Agj a.ra a.bu) := by
 refine Cb Tryz.func82 ?_
 refine VX.R ?_
 refine VX.E (fun K kk => by simp [go_sem]; refine .l (Kc a (by first | assumption | omega) (by first | assumption | omega)) ?_; simp [go_sem]; refine .l (Aft a (by first | assumption | omega)) ?_; simp [go_sem]; refine .l (Aia a.ra a.bu) ?_; simp [go_sem]; exact kk) ?_
 exact .ret (fin ok0 ⟨n, a, (Gx a (by first | assumption | omega)), [], (Agj a.ra a.bu)⟩ ⟨rfl, rfl, rfl, rfl, rfl⟩)
noncomputable def Dz (n : Int) (a : TAg) (h1 : a.sec.length <= 1000000) (h2 : a.lims.length <= 1000000) : I4 := (got (M8 n a h1 h2)).choose
theorem Zp (n : Int) (a : TAg) (h1 : a.sec.length <= 1000000) (h2 : a.lims.length <= 1000000) : PP 82 [] [.li n, a.g] [] (.agg ((Dz n a h1 h2).a false)) := (got (M8 n a h1 h2)).choose_spec.1
theorem Aae (n : Int) (a : TAg) (h1 : a.sec.length <= 1000000) (h2 : a.lims.length <= 1000000) : (Dz n a h1 h2).num = n /\ (Dz n a h1 h2).ag = a /\ (Dz n a h1 h2).toks = Gx a h1 /\ (Dz n a h1 h2).vehs = [] /\ (Dz n a h1 h2).bk = Agj a.ra a.bu := (got (M8 n a h1 h2)).choose_spec.2
theorem Aba (l : List Dc) (ag : Int) (b : List Int) (kind : Int) (now : Int) (hl : l.length <= 1000000) (ht : ∀ t ∈ l, t.sec.length <= 1000000) (hb : b.length <= 1000000) : Ct 208 [.mTok l, .li ag, .mY b, .li kind, .li now] (fun d : Int × Int => .tup [.li d.1, .li d.2]) (fun d => d.2 = 0 -> Ee l d.1 = true) := by
 refine Cb Tryz.func208 ?_
 refine VX.R <| .seq ?_
 by_cases hc1 : b.length = 10
 ·have hg1 : ((b.length : Int) != 10) = false := by simp [hc1]
  obtain ⟨e1, H1⟩ := gx b 0
  refine VX.H (cj2 hg1 H1) ?_
  refine VX.C ?_ ?_ <;> intro h24 <;> simp [go_sem] at h24
  ·refine VX.H (cj2 hg1 H1) ?_
   exact .ret (fin (cj2 hg1 H1) (0, 9) (by first | exact fun _ => h32 | (intro h; simp at h; done)))
  refine VX.skip ?_
  obtain ⟨e2, H2⟩ := gx b 1
  refine VX.H (cj3 hg1 H1 H2) <| .seq ?_
  refine VX.L (cj3 hg1 H1 H2) (Ms l (IntKind.i64.wrap e2)) ?_
  refine VX.C ?_ ?_ <;> intro h32 <;> simp [go_sem] at h32
  ·refine VX.H (cj3 hg1 H1 H2) ?_
   exact .ret (fin (cj3 hg1 H1 H2) (0, 9) (by first | exact fun _ => h32 | (intro h; simp at h; done)))
  obtain ⟨hp0, tp, hp1, hp2⟩ := Nd (by simpa using h32)
  have hp3 := (Ab.1 hp1).1
  refine VX.skip ?_
  obtain ⟨e3, H3⟩ := gx l ((IntKind.i64.wrap e2).toNat)
  refine VX.H (cj4 hg1 H1 H2 H3) <| .seq ?_
  refine VX.draw_seq (by kernel_rfl) (by rfl) (by kernel_rfl) fun K1 hK1 => ?_
  simp [go_sem, hg1, H1, H2, H3]
  repeat' with_reducible refine Ax ?_ ?_
  all_goals try (intros; (repeat' refine Ax ?_ ?_) <;> omega)
  obtain ⟨Y1, cY1, qY1⟩ := got (Abl (b.drop 2) e3.sec (by simp; omega) (ht e3 (Ac H3)))
  refine .lo cY1 (by simp [go_sem, Bf (show (tY b).length <= b.length by simp)]) (by simp [AV.cln, Cp]) ?_
  simp [go_sem, hg1, H1, H2, H3]
  refine Jq (by simp [go_sem]) (by simp [go_sem]) ?_
  simp [go_sem, hg1, H1, H2, H3]
  first | refine .lo (Qw e3 now) rfl (by simp [AV.cln, Cp]) ?_ | refine .skip ?_
  simp [go_sem, hg1, H1, H2, H3]
  refine Jq (by simp [go_sem]) (by simp [go_sem]) ?_
  simp [go_sem, hg1, H1, H2, H3]
  first | refine .lo (V9 e3.ri kind) rfl (by simp [AV.cln, Cp]) ?_ | refine .skip ?_
  simp [go_sem, hg1, H1, H2, H3]
  refine hK1 _ _ (by kernel_rfl) ?_; clear hK1
  refine VX.C ?_ ?_ <;> intro h54 <;> simp [go_sem] at h54
  ·refine VX.H (cj4 hg1 H1 H2 H3) ?_
   exact .ret (fin (cj4 hg1 H1 H2 H3) (0, 9) (by first | exact fun _ => h32 | (intro h; simp at h; done)))
  refine VX.skip <| .H (cj4 hg1 H1 H2 H3) ?_
  exact .ret (fin (cj4 hg1 H1 H2 H3) (IntKind.i64.wrap e2, 0) (by first | exact fun _ => h32 | (intro h; simp at h; done)))
 have hg1 : ((b.length : Int) != 10) = true := by simp [hc1]; omega
 refine VX.H hg1 ?_
 refine VX.C ?_ ?_ <;> intro h24 <;> simp [go_sem] at h24
 refine VX.H hg1 ?_
 exact .ret (fin hg1 (0, 9) (by first | exact fun _ => h32 | (intro h; simp at h; done)))
theorem V3 (r : I4) (hb : Rd r) : Ct 231 [r.g] (fun d : Bool => .lb d) (fun d => True) := by
 refine Cb Tryz.func231 ?_
 refine VX.R ?_
 refine VX.region_seq (by rfl) fun K1 hK1 => ?_
 simp +contextual [go_sem]
 refine Bz (by simp [go_sem]) (by simp [go_sem]) ?_
 simp +contextual [go_sem]
 first | refine .lo (Th r.ag hb.sec hb.lims) rfl (by simp [AV.cln, Cp]) ?_ | refine .skip ?_
 simp +contextual [go_sem]
 refine Bz (by simp [go_sem]) (by simp [go_sem]) ?_
 simp +contextual [go_sem]
 obtain ⟨Y1, cY1, qY1⟩ := got (Ix r.toks hb.toks hb.tsec)
 first | refine .lo cY1 rfl (by simp [AV.cln, Cp]) ?_ | refine .skip ?_
 simp +contextual [go_sem]
 refine Bz (by simp [go_sem]) (by simp [go_sem]) ?_
 simp +contextual [go_sem]
 obtain ⟨Y2, cY2, qY2⟩ := got (I6 r.vehs hb.vehs)
 first | refine .lo cY2 rfl (by simp [AV.cln, Cp]) ?_ | refine .skip ?_
 simp +contextual [go_sem]
 refine Bz (by simp [go_sem]) (by simp [go_sem]) ?_
 simp +contextual [go_sem]
 obtain ⟨Y3, cY3, qY3⟩ := got (Adj r.bk)
 first | refine .lo cY3 rfl (by simp [AV.cln, Cp]) ?_ | refine .skip ?_
 simp +contextual [go_sem]
 refine hK1 _ ?_; clear hK1
 refine VX.ret (Co ?_); simp [go_sem]
 exact ⟨_, by first | rfl | simp [go_sem], trivial⟩
theorem Xs (r : I4) (m : B3) (now : Int) (hb : Rd r) (h : m.tok.length <= 1000000) : Ct 188 [r.g, m.g, .li now] (fun d : I4 × Int × Int => .tup [d.1.g, .li d.2.1, .li d.2.2]) (fun d => d.2.2 = 0 -> (∃ bk, d.1 = { r with bk := bk }) /\ Ee r.toks d.2.1 = true) := by
 refine Cb Tryz.func188 ?_
 refine VX.R ?_
 obtain ⟨Y1, cY1, qY1⟩ := got (Aba r.toks r.num m.tok m.kind now hb.toks hb.tsec h)
 refine VX.L ok0 cY1 <| .seq ?_
 refine VX.R ?_
 refine VX.C ?_ ?_ <;> intro h28 <;> simp [go_sem] at h28
 ·refine VX.R ?_
  exact .ret (fin ok0 (⟨0, ⟨[], 0, 0, [], 0, 0, 0, 0⟩, [], [], ⟨0, 0, 0⟩⟩, 0, 9) (by first | exact fun _ => ⟨⟨_, rfl⟩, qY1 (by simpa using h28)⟩ | (intro h; simp at h; done)))
 refine VX.skip <| .L ok0 (K9 r hb) <| .seq ?_
 refine VX.R ?_
 refine VX.C ?_ ?_ <;> intro h39 <;> simp [go_sem] at h39
 ·refine VX.L ok0 (Afv r.bk) <| .seq ?_
  refine VX.R ?_
  refine VX.C ?_ ?_ <;> intro h47 <;> simp [go_sem] at h47
  ·refine VX.R ?_
   exact .ret (fin ok0 (⟨0, ⟨[], 0, 0, [], 0, 0, 0, 0⟩, [], [], ⟨0, 0, 0⟩⟩, 0, 13) (by first | exact fun _ => ⟨⟨_, rfl⟩, qY1 (by simpa using h28)⟩ | (intro h; simp at h; done)))
  refine VX.skip <| .R1 ?_
  refine VX.R ?_
  exact .ret (fin ok0 (⟨r.num, r.ag, r.toks, r.vehs, (Qb r.bk).1⟩, Y1.1, 0) (by first | exact fun _ => ⟨⟨_, rfl⟩, qY1 (by simpa using h28)⟩ | (intro h; simp at h; done)))
 refine VX.skip <| .R ?_
 exact .ret (fin ok0 (r, Y1.1, 0) (by first | exact fun _ => ⟨⟨_, rfl⟩, qY1 (by simpa using h28)⟩ | (intro h; simp at h; done)))
theorem Sz (r : I4) (l : List Int) (slot : Int) (hb : Rd r) (hl : 2 <= l.length) (hl2 : l.length <= 1000000) (h0 : 0 <= slot) (h1 : slot < r.toks.length) : Ct 236 [r.g, .mI l, .li slot] (fun d : List Eg × Int => .tup [.mVeh d.1, .li d.2]) (fun d => d.1.length <= 9) := by
 refine Cb Tryz.func236 ?_
 iterate 2 refine VX.R ?_
 obtain ⟨e1, H1⟩ := gx r.toks slot.toNat
 refine VX.G H1 ?_
 obtain ⟨e2, H2⟩ := gx l 0
 obtain ⟨e3, H3⟩ := gx l 1
 obtain ⟨Y1, cY1, qY1⟩ := got (Tx r.vehs ⟨r.ag.sec, r.ag.ri, (if e1.cls < r.ag.cls then e1.cls else r.ag.cls), r.ag.lims, r.ag.rq, r.ag.se, r.ag.ra, r.ag.bu⟩ ⟨e2, e3⟩ hb.vehs)
 refine VX.M (cj3 H1 H2 H3) cY1 ?_
 exact .ret (fin (cj3 H1 H2 H3) (Y1.1, Y1.2) qY1)
theorem V2 (l : List Cg) (i : Int) (hl : l.length <= 1000000) (hg : ∀ r ∈ l, r.legs.length <= 1000000) : Ct 214 [.mReq l, .li i] (fun d : List Cg × Int => .tup [.mReq d.1, .li d.2]) (fun d => d.1.length <= l.length /\ ∀ r ∈ d.1, r.legs.length <= 1000000) := by
 refine Cb Tryz.func214 ?_
 refine VX.R <| .seq ?_
 obtain ⟨Y1, cY1, qY1⟩ := got (Ma l 4 (by first | assumption | omega) (by first | assumption | omega))
 refine VX.L ok0 cY1 ?_
 refine VX.C ?_ ?_ <;> intro h8 <;> simp [go_sem] at h8
 ·refine VX.R ?_
  exact .ret (fin ok0 ([], 1) (by first | exact ⟨Az _ _, fun r h => hg r ((Bn.1 h).1)⟩ | exact ⟨Ae _, fun t h => absurd h A8⟩))
 refine VX.skip <| .seq <| .L ok0 (Mj l i (by first | assumption | omega)) ?_
 refine VX.C ?_ ?_ <;> intro h12 <;> simp [go_sem] at h12
 ·refine VX.R ?_
  exact .ret (fin ok0 ([], 12) (by first | exact ⟨Az _ _, fun r h => hg r ((Bn.1 h).1)⟩ | exact ⟨Ae _, fun t h => absurd h A8⟩))
 refine VX.skip ?_
 refine VX.sel1 0 rfl rfl (by simp) ?_
 simp [go_sem, -Prod.exists]
 refine VX.S (fun K kk => by simp [go_sem]; refine .lo (Kb l _ [.iptr false [.li i] 0] (fun r => r.id != i) hl hg (R2 _) (T5 i)) (by simp [go_sem]) (by simp [AV.cln, Cp]) ?_; simp [go_sem]; exact kk) ?_
 exact .ret (fin ok0 ((List.filter (fun r : Cg => r.id != i) l), 0) (by first | exact ⟨Az _ _, fun r h => hg r ((Bn.1 h).1)⟩ | exact ⟨Ae _, fun t h => absurd h A8⟩))
end Go.Proofs.YtkkimgjinbaemaaGreat
