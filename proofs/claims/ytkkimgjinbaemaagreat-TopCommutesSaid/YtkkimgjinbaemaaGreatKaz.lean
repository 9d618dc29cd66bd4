/- The walk. -/
import Derived.Test.YtkkimgjinbaemaaGreatKay
namespace Go.Proofs.YtkkimgjinbaemaaGreat
open Go.RowKit
set_option linter.unusedVariables false
set_option linter.unusedSimpArgs false
set_option maxRecDepth 100000
set_option maxHeartbeats 4000000
theorem Ze (l : List Eg) (id : Int) (hl : l.length <= 1000000) : Ct 239 [.mVeh l, .li id] (fun d : Eg × Bool => .tup [d.1.g, .lb d.2]) (fun d => True) := by
 refine Cb Tryz.func239 ?_
 refine VX.R <| .seq ?_
 refine VX.R <| .block ?_
 refine VX.rangeE l.length (fun i1 (y1 : Int × Int) => ⟨[(1, .li id), (4, .ptr 0 0), (8, .mVeh l), (9, .li l.length), (10, .li i1)], [.box 216 [.li y1.1, .li y1.2]]⟩) (fun i1 y1 => True) (0, 0) (wk ok0 [0]) (trivial) fun i1 y1 hi1 hy1 => ?_
 refine VX.R <| .seq ?_
 refine VX.C ?_ ?_ <;> intro h11 <;> simp [go_sem] at h11
 ·refine VX.skip <| .seq <| .block ?_
  have H1 : l[i1]? = some l[i1] := Aa (by omega)
  generalize l[i1] = e1 at H1
  refine VX.H H1 ?_
  refine VX.H H1 ?_
  refine VX.C ?_ ?_ <;> intro h17 <;> simp [go_sem] at h17
  ·refine VX.H H1 ?_
   exact .ret (fin H1 (e1, true) trivial)
  refine VX.skip <| .H1 H1 ?_
  exact ⟨by omega, (y1.1, y1.2), trivial, wk (cj2 (Bq ((i1 : Int) + 1)) H1) [0]⟩
 refine VX.exit <| .R ?_
 exact .ret (fin ok0 (⟨0, 0⟩, false) trivial)
theorem Qs (l : List Eg) (c : Int) (hl : l.length <= 1000000) : Ct 276 [.mVeh l, .li c] (fun d : Int => .li d) (fun d => True) := by
 refine Cb Tryz.func276 ?_
 refine VX.R ?_
 refine VX.R <| .seq ?_
 refine VX.R <| .block ?_
 refine VX.rangeE l.length (fun i1 (y1 : Int) => ⟨[(1, .li c), (5, .li y1), (8, .mVeh l), (9, .li l.length), (10, .li i1)], []⟩) (fun i1 y1 => True) (0) (wk ok0 []) (trivial) fun i1 y1 hi1 hy1 => ?_
 refine VX.R <| .seq ?_
 refine VX.C ?_ ?_ <;> intro h11 <;> simp [go_sem] at h11
 ·refine VX.skip <| .seq <| .block ?_
  have H1 : l[i1]? = some l[i1] := Aa (by omega)
  generalize l[i1] = e1 at H1
  refine VX.H H1 ?_
  refine VX.H H1 ?_
  refine VX.C ?_ ?_ <;> intro h17 <;> simp [go_sem] at h17
  ·refine VX.H1 H1 ?_
   refine VX.H1 H1 ?_
   exact ⟨by omega, (IntKind.i64.wrap (y1 + 1)), trivial, wk (cj2 (Bq ((i1 : Int) + 1)) H1) []⟩
  refine VX.skip <| .H1 H1 ?_
  exact ⟨by omega, (y1), trivial, wk (cj2 (Bq ((i1 : Int) + 1)) H1) []⟩
 refine VX.exit <| .R ?_
 exact .ret (fin ok0 y1 trivial)
theorem I6 (l : List Eg) (hl : l.length <= 1000000) : Ct 254 [.mVeh l] (fun d : Bool => .lb d) (fun d => True) := by
 refine Cb Tryz.func254 ?_
 refine VX.R <| .seq ?_
 refine VX.R ?_
 refine VX.C ?_ ?_ <;> intro h7 <;> simp [go_sem] at h7
 ·refine VX.R ?_
  exact .ret (fin ok0 false trivial)
 refine VX.skip <| .seq <| .R <| .block ?_
 refine VX.rangeE l.length (fun i1 (y1 : Unit) => ⟨[(0, .mVeh l), (8, .mVeh l), (9, .li l.length), (10, .li i1)], []⟩) (fun i1 y1 => True) () (wk ok0 []) (trivial) fun i1 y1 hi1 hy1 => ?_
 refine VX.R <| .seq ?_
 refine VX.C ?_ ?_ <;> intro h11 <;> simp [go_sem] at h11
 ·refine VX.skip <| .seq <| .block ?_
  have H1 : l[i1]? = some l[i1] := Aa (by omega)
  generalize l[i1] = e1 at H1
  refine VX.H H1 <| .seq ?_
  refine VX.H H1 ?_
  refine VX.C ?_ ?_ <;> intro h32 <;> simp [go_sem] at h32
  ·refine VX.H H1 ?_
   exact .ret (fin H1 false trivial)
  refine VX.skip ?_
  by_cases hc8 : 0 < i1
  ·have hw2 := Bq (i1 - 1 : Int)
   have H3 : l[(i1 - 1)]? = some l[(i1 - 1)] := Aa (by omega)
   generalize l[(i1 - 1)] = e3 at H3
   refine VX.G (cj4 H1 hc8 hw2 H3) ?_
   refine VX.C ?_ ?_ <;> intro h45 <;> simp [go_sem] at h45
   ·refine VX.H (cj4 H1 hc8 hw2 H3) ?_
    exact .ret (fin (cj4 H1 hc8 hw2 H3) false trivial)
   refine VX.skip <| .H1 (cj4 H1 hc8 hw2 H3) ?_
   exact ⟨by omega, (), trivial, wk (cj5 (Bq ((i1 : Int) + 1)) H1 hc8 hw2 H3) []⟩
  have hi0 : i1 = 0 := by omega
  have hxb : l[i1 - 1]? = some e1 := by rw [<- H1, hi0]
  have hw4 := Bq (i1 - 1 : Int)
  refine VX.G (cj4 H1 hc8 hxb hw4) ?_
  refine VX.C ?_ ?_ <;> intro h45 <;> simp [go_sem] at h45
  refine VX.skip <| .H1 (cj4 H1 hc8 hxb hw4) ?_
  exact ⟨by omega, (), trivial, wk (cj5 (Bq ((i1 : Int) + 1)) H1 hc8 hxb hw4) []⟩
 refine VX.exit <| .R ?_
 exact .ret (fin ok0 true trivial)
noncomputable def Yl (l : List Eg) (hl : l.length <= 1000000) : Bool := (got (I6 l hl)).choose
theorem X0 (l : List Eg) (hl : l.length <= 1000000) : PP 254 [] [.mVeh l] [] (.lb (Yl l hl)) := (got (I6 l hl)).choose_spec.1
theorem I5 (l : List Eg) (id : Int) (hl : l.length <= 1000000) : Ct 260 [.mVeh l, .li id] (fun d : Int => .li d) (fun d => 0 <= d /\ d <= l.length) := by
 refine Cb Tryz.func260 ?_
 refine VX.R ?_
 refine VX.R <| .seq <| .block ?_
 refine VX.whileE (fun (y1 : Int) => ⟨[(0, .mVeh l), (1, .li id), (5, .li y1)], []⟩) (fun y1 => 0 <= y1 /\ y1 <= l.length) (fun y1 => (l.length - y1).toNat) (0) (wk ok0 []) (by omega) fun y1 hy1 => ?_
 refine VX.seq ?_
 by_cases hc2 : y1 < l.length
 ·have H1 : l[y1.toNat]? = some l[y1.toNat] := Aa (by omega)
  generalize l[y1.toNat] = e1 at H1
  refine VX.H (cj2 hc2 H1) ?_
  refine VX.C ?_ ?_ <;> intro h18 <;> simp [go_sem] at h18
  ·refine VX.skip <| .block ?_
   have hw2 := Bq (y1 + 1 : Int)
   refine VX.H1 (cj3 hc2 H1 hw2) ?_
   refine ⟨((y1 + 1)), ?_, ?_, [], Bp (by decide) ?_ ?_, by simp⟩
   ·first | omega | (simp at h18; omega)
   ·first | omega | (simp at h18; omega)
   all_goals simp [go_sem, hc2, H1, hw2]
  refine VX.exit <| .H (cj2 hc2 H1) ?_
  exact .ret (fin (cj2 hc2 H1) y1 hy1)
 refine VX.H hc2 ?_
 refine VX.C ?_ ?_ <;> intro h18 <;> simp [go_sem] at h18
 refine VX.exit <| .H hc2 ?_
 exact .ret (fin hc2 y1 hy1)
noncomputable def Jd (l : List Eg) (id : Int) (hl : l.length <= 1000000) : Int := (got (I5 l id hl)).choose
theorem Xz (l : List Eg) (id : Int) (hl : l.length <= 1000000) : PP 260 [] [.mVeh l, .li id] [] (.li (Jd l id hl)) := (got (I5 l id hl)).choose_spec.1
theorem Ym (l : List Eg) (id : Int) (hl : l.length <= 1000000) : 0 <= (Jd l id hl) /\ (Jd l id hl) <= l.length := (got (I5 l id hl)).choose_spec.2
theorem Tx (l : List Eg) (a : TAg) (v : Eg) (hl : l.length <= 1000000) : Ct 259 [.mVeh l, a.g, v.g] (fun d : List Eg × Int => .tup [.mVeh d.1, .li d.2]) (fun d => d.1.length <= 9) := by
 refine Cb Tryz.func259 ?_
 obtain ⟨Y1, cY1, qY1⟩ := got (I5 l v.id hl)
 have hp := qY1
 refine VX.R <| .seq ?_
 obtain ⟨Y2, cY2, qY2⟩ := got (I6 l hl)
 refine VX.L ok0 cY2 ?_
 refine VX.C ?_ ?_ <;> intro h12 <;> simp [go_sem] at h12
 ·refine VX.R ?_
  exact .ret (fin ok0 ([], 1) (by first | omega | (simp; done) | (simp; omega)))
 refine VX.skip <| .seq <| .R ?_
 refine VX.C ?_ ?_ <;> intro h20 <;> simp [go_sem] at h20
 ·refine VX.R ?_
  exact .ret (fin ok0 ([], 8) (by first | omega | (simp; done) | (simp; omega)))
 refine VX.skip <| .seq <| .R ?_
 refine VX.C ?_ ?_ <;> intro h30 <;> simp [go_sem] at h30
 ·refine VX.R ?_
  exact .ret (fin ok0 ([], 17) (by first | omega | (simp; done) | (simp; omega)))
 refine VX.skip <| .L ok0 cY1 <| .seq ?_
 by_cases hc8 : Y1 < l.length
 ·have H1 : l[Y1.toNat]? = some l[Y1.toNat] := Aa (by omega)
  generalize l[Y1.toNat] = e1 at H1
  refine VX.G (cj2 hc8 H1) ?_
  refine VX.C ?_ ?_ <;> intro h48 <;> simp [go_sem] at h48
  ·refine VX.H (cj2 hc8 H1) ?_
   exact .ret (fin (cj2 hc8 H1) ([], 11) (by first | omega | (simp; done) | (simp; omega)))
  refine VX.skip <| .seq ?_
  obtain ⟨Y3, cY3, qY3⟩ := got (Qs l v.cls hl)
  obtain ⟨Y4, cY4, qY4⟩ := got (Qr a v.cls)
  refine VX.E (fun K kk => by simp [go_sem, hc8, H1]; refine .l cY3 ?_; simp [go_sem, hc8, H1]; refine .l cY4 ?_; simp [go_sem, hc8, H1]; exact kk) ?_
  refine VX.C ?_ ?_ <;> intro h57 <;> simp [go_sem] at h57
  ·refine VX.H (cj2 hc8 H1) ?_
   exact .ret (fin (cj2 hc8 H1) ([], 14) (by first | omega | (simp; done) | (simp; omega)))
  refine VX.skip <| .seq <| .H (cj2 hc8 H1) ?_
  refine VX.C ?_ ?_ <;> intro h60 <;> simp [go_sem] at h60
  ·refine VX.H (cj2 hc8 H1) ?_
   exact .ret (fin (cj2 hc8 H1) ([], 10) (by first | omega | (simp; done) | (simp; omega)))
  refine VX.skip ?_
  have hw2 := Bq (l.length + 1 : Int)
  refine VX.H (cj3 hc8 H1 hw2) ?_
  refine VX.H (cj3 hc8 H1 hw2) ?_
  refine VX.gen 2 rfl (by simp) Eg.t (l.length + 1) ?_ fun R hR => ?_
  ·apply G7
   ·repeat' first | exact Ii | exact Ih | exact Ig (x := (⟨0, 0⟩ : Eg)) rfl | apply G3 | apply G5 | apply G4 | apply Ij | apply (fun h => Ie (x := (⟨_, _⟩ : Eg)) h rfl) | apply (fun h => G6 (x := (⟨_, _⟩ : Eg)) rfl h)
   first | rfl | omega | simp | (simp; omega)
  simp [go_sem]
  have H3 : R[Y1.toNat]? = some R[Y1.toNat] := Aa (by omega)
  generalize R[Y1.toNat] = e3 at H3
  refine VX.H (cj5 hc8 H1 hw2 hR H3) ?_
  have hw4 := Bq (Y1 + 1 : Int)
  refine VX.G (cj6 hc8 H1 hw2 hR H3 hw4) ?_
  refine VX.gen 2 rfl (by simp) Eg.t (l.length + 1) ?_ fun S hS => ?_
  ·apply G7
   ·repeat' first | exact Ii | exact Ih | exact Ig (x := (⟨0, 0⟩ : Eg)) rfl | apply G3 | apply G5 | apply G4 | apply Ij | apply (fun h => Ie (x := (⟨_, _⟩ : Eg)) h rfl) | apply (fun h => G6 (x := (⟨_, _⟩ : Eg)) rfl h)
   first | rfl | omega | simp | (simp; omega)
  simp [go_sem]
  refine VX.S (fun K kk => by simp [go_sem, hc8, H1, hw2, hR, H3, hw4, hS]; exact kk) ?_
  refine VX.Z ok0 2 ?_
  refine VX.ret (Co ?_); simp [go_sem, hc8, H1, hw2, hR, H3, hw4, hS]
  exact ⟨(S, 0), by first | rfl | simp [go_sem], (by first | omega | (simp; done) | (simp; omega))⟩
 have hn : l[Y1.toNat]? = none := Ar (by omega)
 refine VX.G (cj2 hc8 hn) ?_
 refine VX.C ?_ ?_ <;> intro h48 <;> simp [go_sem] at h48
 refine VX.skip <| .seq ?_
 obtain ⟨Y5, cY5, qY5⟩ := got (Qs l v.cls hl)
 obtain ⟨Y6, cY6, qY6⟩ := got (Qr a v.cls)
 refine VX.E (fun K kk => by simp [go_sem, hc8, hn]; refine .l cY5 ?_; simp [go_sem, hc8, hn]; refine .l cY6 ?_; simp [go_sem, hc8, hn]; exact kk) ?_
 refine VX.C ?_ ?_ <;> intro h57 <;> simp [go_sem] at h57
 ·refine VX.H (cj2 hc8 hn) ?_
  exact .ret (fin (cj2 hc8 hn) ([], 14) (by first | omega | (simp; done) | (simp; omega)))
 refine VX.skip <| .seq <| .H (cj2 hc8 hn) ?_
 refine VX.C ?_ ?_ <;> intro h60 <;> simp [go_sem] at h60
 ·refine VX.H (cj2 hc8 hn) ?_
  exact .ret (fin (cj2 hc8 hn) ([], 10) (by first | omega | (simp; done) | (simp; omega)))
 refine VX.skip ?_
 have hw5 := Bq (l.length + 1 : Int)
 refine VX.H (cj3 hc8 hn hw5) ?_
 refine VX.H (cj3 hc8 hn hw5) ?_
 refine VX.gen 2 rfl (by simp) Eg.t (l.length + 1) ?_ fun R hR => ?_
 ·apply G7
  ·repeat' first | exact Ii | exact Ih | exact Ig (x := (⟨0, 0⟩ : Eg)) rfl | apply G3 | apply G5 | apply G4 | apply Ij | apply (fun h => Ie (x := (⟨_, _⟩ : Eg)) h rfl) | apply (fun h => G6 (x := (⟨_, _⟩ : Eg)) rfl h)
  first | rfl | omega | simp | (simp; omega)
 simp [go_sem]
 have H6 : R[Y1.toNat]? = some R[Y1.toNat] := Aa (by omega)
 generalize R[Y1.toNat] = e6 at H6
 refine VX.H (cj5 hc8 hn hw5 hR H6) ?_
 have hw7 := Bq (Y1 + 1 : Int)
 refine VX.G (cj6 hc8 hn hw5 hR H6 hw7) ?_
 refine VX.gen 2 rfl (by simp) Eg.t (l.length + 1) ?_ fun S hS => ?_
 ·apply G7
  ·repeat' first | exact Ii | exact Ih | exact Ig (x := (⟨0, 0⟩ : Eg)) rfl | apply G3 | apply G5 | apply G4 | apply Ij | apply (fun h => Ie (x := (⟨_, _⟩ : Eg)) h rfl) | apply (fun h => G6 (x := (⟨_, _⟩ : Eg)) rfl h)
  first | rfl | omega | simp | (simp; omega)
 simp [go_sem]
 refine VX.S (fun K kk => by simp [go_sem, hc8, hn, hw5, hR, H6, hw7, hS]; exact kk) ?_
 refine VX.Z ok0 2 ?_
 refine VX.ret (Co ?_); simp [go_sem, hc8, hn, hw5, hR, H6, hw7, hS]
 exact ⟨(S, 0), by first | rfl | simp [go_sem], (by first | omega | (simp; done) | (simp; omega))⟩
structure O7 where
  ag : Int
  num : Int
  se : Int
def O7.t (x : O7) : List T := [.li x.ag, .li x.num, .li x.se]
def O7.a (fr : Bool) (x : O7) : List AV := [.li x.ag, .li x.num, .li x.se]
abbrev O7.g (x : O7) : AV := .agg (x.a false)
attribute [go_sem] O7.g
structure F0 where
  tok : Int
  fix : Int
  grp : Int
  lea : Int
  mos : Int
  dat : Int
def F0.t (x : F0) : List T := [.li x.tok, .li x.fix, .li x.grp, .li x.lea, .li x.mos, .li x.dat]
def F0.a (fr : Bool) (x : F0) : List AV := [.li x.tok, .li x.fix, .li x.grp, .li x.lea, .li x.mos, .li x.dat]
abbrev F0.g (x : F0) : AV := .agg (x.a false)
attribute [go_sem] F0.g
structure Kq where
  fix : Int
  grp : Int
  lea : Int
  mos : Int
  dat : Int
def Kq.t (x : Kq) : List T := [.li x.fix, .li x.grp, .li x.lea, .li x.mos, .li x.dat]
def Kq.a (fr : Bool) (x : Kq) : List AV := [.li x.fix, .li x.grp, .li x.lea, .li x.mos, .li x.dat]
abbrev Kq.g (x : Kq) : AV := .agg (x.a false)
attribute [go_sem] Kq.g
abbrev N8 (l : List (List B3)) : List (List T) := l.map fun x => [.sl 4 (Nw x)]
abbrev Rz (l : List (List (List B3))) : List (List T) := l.map fun x => [.sl 1 (N8 x)]
abbrev Zy (l : List (Int × Int)) : List (List T) := l.map fun x => [.li x.1, .li x.2]
structure Tu where
  ses : List (List B3)
  feed : List B3
def Tu.t (x : Tu) : List T := [.sl 1 (N8 x.ses), .sl 4 (Nw x.feed)]
def Tu.a (fr : Bool) (x : Tu) : List AV := [.imm fr 1 (N8 x.ses), .imm fr 4 (Nw x.feed)]
abbrev Tu.g (x : Tu) : AV := .agg (x.a false)
attribute [go_sem] Tu.g
attribute [go_sem] O7.t O7.a F0.t F0.a Kq.t Kq.a Tu.t Tu.a
theorem Kc (a : TAg) (h1 : a.sec.length <= 1000000) (h2 : a.lims.length <= 1000000) : PP 110 [] [a.g] [] (a.g) := by
 refine B0 Tryz.func110 ?_
 refine VW.R ?_
 refine VW.S (fun K kk => by simp [go_sem]; refine .lo (B8.froz (B6 _ (by simpa using h1) (by simp [T.plain]))) rfl (by simp) ?_; simp [go_sem]; exact kk) ?_
 refine VW.S (fun K kk => by simp [go_sem]; refine .lo (B8.froz (Ep _ (by simpa using h2) (by simp [T.plain]))) rfl (by simp) ?_; simp [go_sem]; exact kk) ?_
 refine VW.R ?_
 exact .ret (rL ok0)
theorem Qy (r : Cg) (h : r.legs.length <= 1000000) : PP 186 [] [r.g] [] (r.g) := by
 refine B0 Tryz.func186 ?_
 refine VW.R ?_
 refine VW.S (fun K kk => by simp [go_sem]; refine .lo (B8.froz (Js _ (by simpa using h) (by simp [T.plain, Dp.t]))) rfl (by simp) ?_; simp [go_sem]; exact kk) ?_
 refine VW.R ?_
 exact .ret (rL ok0)
theorem Pm (s : Fl) (h1 : s.ctl.lights.length <= 1000000) (h2 : s.ctl.nxt.length <= 1000000) : PP 126 [] [s.g] [] (s.g) := by
 refine B0 Tryz.func126 ?_
 refine VW.R ?_
 refine VW.S (fun K kk => by simp [go_sem]; refine .lo (B8.froz (Oz _ (by simpa using h1) (by simp [T.plain, Cz.t]))) rfl (by simp) ?_; simp [go_sem]; exact kk) ?_
 refine VW.S (fun K kk => by simp [go_sem]; refine .lo (B8.froz (Ep _ (by simpa using h2) (by simp [T.plain]))) rfl (by simp) ?_; simp [go_sem]; exact kk) ?_
 refine VW.R ?_
 exact .ret (rL ok0)
theorem Jr (c : Dy) (a : Int) (h : c.ags.length <= 1000000) : Ct 33 [c.g, .li a] (fun d : Int => .li d) (fun d => True) := by
 refine Cb Tryz.func33 ?_
 refine VX.R ?_
 refine VX.R <| .seq ?_
 refine VX.R <| .block ?_
 refine VX.rangeE c.ags.length (fun i1 (y1 : Int) => ⟨[(1, .li a), (5, .li y1), (9, .mAg c.ags), (10, .li c.ags.length), (11, .li i1)], []⟩) (fun i1 y1 => True) (0) (wk ok0 []) (trivial) fun i1 y1 hi1 hy1 => ?_
 refine VX.R <| .seq ?_
 refine VX.C ?_ ?_ <;> intro h12 <;> simp [go_sem] at h12
 ·refine VX.skip <| .seq <| .block ?_
  have H1 : c.ags[i1]? = some c.ags[i1] := Aa (by omega)
  generalize c.ags[i1] = e1 at H1
  refine VX.H H1 ?_
  refine VX.H H1 ?_
  refine VX.C ?_ ?_ <;> intro h18 <;> simp [go_sem] at h18
  ·refine VX.H1 H1 ?_
   refine VX.H1 H1 ?_
   exact ⟨by omega, (IntKind.i64.wrap (y1 + e1.se)), trivial, wk (cj2 (Bq ((i1 : Int) + 1)) H1) []⟩
  refine VX.skip <| .H1 H1 ?_
  exact ⟨by omega, (y1), trivial, wk (cj2 (Bq ((i1 : Int) + 1)) H1) []⟩
 refine VX.exit <| .R ?_
 exact .ret (fin ok0 y1 trivial)
noncomputable def Ju (c : Dy) (a : Int) (h : c.ags.length <= 1000000) : Int := (got (Jr c a h)).choose
theorem Ph (c : Dy) (a : Int) (h : c.ags.length <= 1000000) : PP 33 [] [c.g, .li a] [] (.li (Ju c a h)) := (got (Jr c a h)).choose_spec.1
theorem Oo (c : Dy) (s : Int) (h : c.ags.length <= 1000000) : Ct 36 [c.g, .li s] (fun d : Int => .li d) (fun d => True) := by
 refine Cb Tryz.func36 ?_
 refine VX.R <| .seq ?_
 refine VX.R <| .block ?_
 refine VX.rangeE c.ags.length (fun i1 (y1 : Int) => ⟨[(1, .li y1), (8, .mAg c.ags), (9, .li c.ags.length), (10, .li i1)], []⟩) (fun i1 y1 => True) (s) (wk ok0 []) (trivial) fun i1 y1 hi1 hy1 => ?_
 refine VX.R <| .seq ?_
 refine VX.C ?_ ?_ <;> intro h11 <;> simp [go_sem] at h11
 ·refine VX.skip <| .seq <| .block ?_
  have H1 : c.ags[i1]? = some c.ags[i1] := Aa (by omega)
  generalize c.ags[i1] = e1 at H1
  refine VX.H H1 <| .seq ?_
  refine VX.H H1 ?_
  refine VX.C ?_ ?_ <;> intro h18 <;> simp [go_sem] at h18
  ·refine VX.H H1 ?_
   exact .ret (fin H1 i1 trivial)
  refine VX.skip <| .H1 H1 ?_
  refine VX.H1 H1 ?_
  exact ⟨by omega, (IntKind.i64.wrap (y1 - e1.se)), trivial, wk (cj2 (Bq ((i1 : Int) + 1)) H1) []⟩
 refine VX.exit <| .R ?_
 exact .ret (fin ok0 0 trivial)
theorem Ol (a : Int) (s : Int) (b : List Int) (h : b.length <= 1000) : Ct 257 [.li a, .li s, .mY b] (fun d : List Int => .mY d) (fun d => d.length = b.length + 2) := by
 refine Cb Tryz.func257 ?_
 have e2 : 2 + b.length = b.length + 1 + 1 := by omega
 refine VX.R ?_
 have hw1 := Bq (2 + b.length : Int)
 refine VX.H hw1 ?_
 refine VX.H hw1 ?_
 refine VX.H hw1 ?_
 refine VX.Z ok0 0 ?_
 refine VX.ret (Co ?_); simp [go_sem, hw1, e2]
 exact ⟨(List.replicate 0 0) ++ ([IntKind.u8.wrap a, IntKind.u8.wrap s]) ++ b, by first | rfl | simp [go_sem], (by simp)⟩
noncomputable def O3 (a : Int) (s : Int) (b : List Int) (h : b.length <= 1000) : List Int := (got (Ol a s b h)).choose
theorem Abr (a : Int) (s : Int) (b : List Int) (h : b.length <= 1000) : PP 257 [] [.li a, .li s, .mY b] [] (.mY (O3 a s b h)) := (got (Ol a s b h)).choose_spec.1
theorem Ab3 (a : Int) (s : Int) (b : List Int) (h : b.length <= 1000) : (O3 a s b h).length = b.length + 2 := (got (Ol a s b h)).choose_spec.2
theorem X5 (l : List Dc) (s : Int) : PP 232 [] [.mTok l, .li s] [] (.lb (Ee l s)) := by
 refine B0 Tryz.func232 ?_
 refine VW.R ?_
 rcases (by omega : s < 0 \/ (0 <= s /\ (l.length : Int) <= s) \/ (0 <= s /\ s < l.length)) with hs | hs | hs
 ·replace hs : ¬ 0 <= s := by omega
  refine VW.S (fun K kk => by simp [go_sem, hs]; repeat first | exact kk | refine aK ?_) ?_
  refine VW.ret (B2 (by simp [go_sem]) ?_)
  first | (simp [go_sem, Ee, hs, hx]; done) | (simp [go_sem, Ee, hs]; done) | (simp [go_sem, Ee, hs, Ar (show l.length <= s.toNat by omega)]; done)
 ·refine VW.S (fun K kk => by simp [go_sem, hs]; repeat first | exact kk | refine aK ?_) ?_
  refine VW.ret (B2 (by simp [go_sem]) ?_)
  first | (simp [go_sem, Ee, hs, hx]; done) | (simp [go_sem, Ee, hs]; done) | (simp [go_sem, Ee, hs, Ar (show l.length <= s.toNat by omega)]; done)
 have hx : l[s.toNat]? = some l[s.toNat] := Aa (by omega)
 generalize l[s.toNat] = t at hx
 refine VW.S (fun K kk => by simp [go_sem, hs]; repeat first | exact kk | refine aK ?_) ?_
 refine VW.ret (B2 (by simp [go_sem]) ?_)
 first | (simp [go_sem, Ee, hs, hx]; done) | (simp [go_sem, Ee, hs]; done) | (simp [go_sem, Ee, hs, Ar (show l.length <= s.toNat by omega)]; done)
theorem Iv (j : Df) (h : j.phs.length <= 1000000) : ∃ d : E7, PP 54 [] [j.g] [.row 3 1 false false (tI d.col), .row 3 1 false false (tI d.cnt)] (.agg [.lb d.fl, .lb d.ov, .own 0 d.col.length, .own 1 d.cnt.length]) /\ (d.col.length = j.phs.length /\ d.cnt.length = j.phs.length) := by
 refine Km (D := E7) (F := fun d => .agg [.lb d.fl, .lb d.ov, .own 0 d.col.length, .own 1 d.cnt.length]) (S := fun d => [.row 3 1 false false (tI d.col), .row 3 1 false false (tI d.cnt)]) (Q := fun d => d.col.length = j.phs.length /\ d.cnt.length = j.phs.length) Tryz.func54 rfl rfl rfl (by simp [Tryz.ntmps54]) ?_
 refine VX.R ?_
 refine VX.G ok0 ?_
 exact .ret ⟨⟨true, false, List.replicate j.phs.length 0, List.replicate j.phs.length 0⟩, rW ok0 [2, 3], (by simp)⟩
noncomputable def Ch (j : Df) (h : j.phs.length <= 1000000) : E7 := (Iv j h).choose
theorem S6 (j : Df) (h : j.phs.length <= 1000000) : PP 54 [] [j.g] [.row 3 1 false false (tI (Ch j h).col), .row 3 1 false false (tI (Ch j h).cnt)] (.agg [.lit (.bool (Ch j h).fl), .lit (.bool (Ch j h).ov), .own 0 ((Ch j h).col).length, .own 1 ((Ch j h).cnt).length]) := (Iv j h).choose_spec.1
theorem U9 (j : Df) (h : j.phs.length <= 1000000) : (Ch j h).col.length = j.phs.length /\ (Ch j h).cnt.length = j.phs.length := (Iv j h).choose_spec.2
theorem Me (s : C8) (b : Bool) (h : s.ended.length <= 1000000) : Ct 154 [s.g, .lb b] (fun d : C8 => d.g) (fun d => d.ended = s.ended) := by
 refine Cb Tryz.func154 ?_
 refine VX.R ?_
 refine VX.L ok0 (Ia s (by first | assumption | omega)) <| .seq ?_
 refine VX.R ?_
 refine VX.C ?_ ?_ <;> intro h12 <;> simp [go_sem] at h12
 ·refine VX.R1 ?_
  refine VX.R ?_
  exact .ret (fin ok0 ⟨s.ph, IntKind.i64.wrap ((if 59 < s.gr then 59 else s.gr) + 1), s.ended⟩ rfl)
 refine VX.skip <| .R ?_
 exact .ret (fin ok0 s rfl)
noncomputable def Jg (s : C8) (b : Bool) (h : s.ended.length <= 1000000) : C8 := (got (Me s b h)).choose
theorem Q3 (s : C8) (b : Bool) (h : s.ended.length <= 1000000) : PP 154 [] [s.g, .lb b] [] (.agg ((Jg s b h).a false)) := (got (Me s b h)).choose_spec.1
theorem Q7 (s : C8) (b : Bool) (h : s.ended.length <= 1000000) : (Jg s b h).ended = s.ended := (got (Me s b h)).choose_spec.2
theorem Ah2 (c : Kr) (h : c.lights.length <= 1000000) : Ct 221 [c.g] (fun d : Int => .li d) (fun d => True) := by
 refine Cb Tryz.func221 ?_
 refine VX.R ?_
 refine VX.R <| .seq ?_
 refine VX.R <| .block ?_
 refine VX.rangeE c.lights.length (fun i1 (y1 : Int) => ⟨[(3, .li y1), (7, .mLight c.lights), (8, .li c.lights.length), (9, .li i1)], []⟩) (fun i1 y1 => True) (0) (wk ok0 []) (trivial) fun i1 y1 hi1 hy1 => ?_
 refine VX.R <| .seq ?_
 refine VX.C ?_ ?_ <;> intro h10 <;> simp [go_sem] at h10
 ·refine VX.skip <| .seq <| .block ?_
  have H1 : c.lights[i1]? = some c.lights[i1] := Aa (by omega)
  generalize c.lights[i1] = e1 at H1
  refine VX.H H1 ?_
  refine VX.H H1 ?_
  refine VX.C ?_ ?_ <;> intro h16 <;> simp [go_sem] at h16
  ·refine VX.H1 H1 ?_
   refine VX.H1 H1 ?_
   exact ⟨by omega, (Cm .or .i64 y1 (IntKind.i64.wrap (1 * 2 ^ min (Int.toNat i1) 64))), trivial, wk (cj2 (Bq ((i1 : Int) + 1)) H1) []⟩
  refine VX.skip <| .H1 H1 ?_
  exact ⟨by omega, (y1), trivial, wk (cj2 (Bq ((i1 : Int) + 1)) H1) []⟩
 refine VX.exit <| .R ?_
 exact .ret (fin ok0 y1 trivial)
theorem Tz (s : F0) (n : Int) : Ct 159 [s.g, .li n] (fun d : Int × Bool => .tup [.li d.1, .lb d.2]) (fun d => True) := by
 refine Cb Tryz.func159 ?_
 refine VX.R <| .seq ?_
 refine VX.R ?_
 refine VX.C ?_ ?_ <;> intro h10 <;> simp [go_sem] at h10
 ·refine VX.D ?_
  exact .ret (fin ok0 (0, ((n : Int) == s.fix)) trivial)
 refine VX.skip <| .R <| .seq ?_
 refine VX.H ok0 ?_
 refine VX.C ?_ ?_ <;> intro h27 <;> simp [go_sem] at h27
 ·refine VX.R ?_
  exact .ret (fin ok0 (0, false) trivial)
 refine VX.skip <| .H ok0 ?_
 refine VX.D ?_
 refine VX.ret (Co ?_); simp [go_sem]
 exact ⟨(_, _), by first | rfl | simp [go_sem], trivial⟩
mutual
def AV.sel1 (id : Nat) (ts : List T) : AV -> AV
 | .ptr i off => bif i == id then .iptr false ts off else .ptr i off
 | .agg cs => .agg (Nl id ts cs)
 | .tup cs => .tup (Nl id ts cs)
 | .fn f cs => .fn f (Nl id ts cs)
 | .gd t v => .gd t (v.sel1 id ts)
 | .any => .any
 | .lit v => .lit v
 | .nil k => .nil k
 | .imm fr k es => .imm fr k es
 | .own i n => .own i n
 | .sub i n lo m => .sub i n lo m
 | .rptr i n j off => .rptr i n j off
 | .bsl i n => bif i == id then .any else .bsl i n
 | .iptr fr cs off => .iptr fr cs off
def Nl (id : Nat) (ts : List T) : List AV -> List AV
 | [] => []
 | c :: cs => c.sel1 id ts :: Nl id ts cs
end
section
variable {id : Nat} {ts : List T}
theorem Wg : ∀ (cs : List AV) (i : Nat), (Nl id ts cs)[i]? = (cs[i]?).map (AV.sel1 id ts)
 | [], i => by simp [Nl]
 | c :: cs, 0 => by simp [Nl]
 | c :: cs, i + 1 => by simp [Nl, Wg cs i]
theorem Kf : ∀ (cs : List AV), (Nl id ts cs).length = cs.length
 | [] => rfl
 | c :: cs => by simp [Nl, Kf cs]
end
def Ob.sel1 (id : Nat) (ts : List T) : Ob -> Ob
 | .box ty cs => .box ty (Nl id ts cs)
 | x => x
def Acq (id : Nat) (ts : List T) : List (Nat × AV) -> List (Nat × AV)
 | [] => []
 | p :: l => (p.1, p.2.sel1 id ts) :: Acq id ts l
theorem Aak (id : Nat) (ts : List T) : ∀ (l : List (Nat × AV)) (t : Nat), Ce (Acq id ts l) t = (Ce l t).sel1 id ts
 | [], t => rfl
 | p :: l, t => by
  simp only [Acq, Ce]
  cases p.1 == t
  ·exact Aak id ts l t
  rfl
def Xf (id : Nat) (ts : List T) : List Ob -> List Ob
 | [] => []
 | x :: l => x.sel1 id ts :: Xf id ts l
theorem Acr (id : Nat) (ts : List T) : ∀ (l : List Ob) (i : Nat), (Xf id ts l).getD i .gone = (l.getD i .gone).sel1 id ts
 | [], i => by simp [Xf, Ob.sel1]
 | x :: l, 0 => by simp [Xf]
 | x :: l, i + 1 => by have := Acr id ts l i; simp [Xf] at this ⊢; exact this
def St.sel1 (st : St) (id : Nat) (ts : List T) : St := ⟨Acq id ts st.sl, Ly (Xf id ts st.ob) id .gone⟩
theorem R6 (st : St) (id : Nat) (ts : List T) (i : Nat) : (st.sel1 id ts).o i = if i = id then .gone else (st.o i).sel1 id ts := by
 show (Ly (Xf id ts st.ob) id .gone).getD i .gone = _
 rw [R4, Acr]
 rfl
theorem Rel.sel1 {E : Ent} {β : Nat -> Option Nat} {st : St} {a : Act} {w : World} (r : Rel E β st a w) {id : Nat} {ty : TypeId} {cs : List AV} {ts : List T} (ho : st.o id = .box ty cs) (ht : ttL cs = some ts) (hE : E.o0 id = .gone) : Rel E β (st.sel1 id ts) a w := by
 have hlv : ∀ b, (E.C β (st.sel1 id ts) w).lives b -> (E.C β st w).lives b := by
  rintro b ⟨i, h1, h2⟩
  have h2 : ((st.sel1 id ts).o i).live := h2
  rw [R6] at h2
  by_cases e : i = id
  ·rw [if_pos e] at h2; exact h2.elim
  rw [if_neg e] at h2
  refine ⟨i, h1, ?_⟩
  show (st.o i).live
  cases hq : st.o i <;> rw [hq] at h2 <;> exact h2
 have hS : ∀ fr b, (E.C β st w).S fr b -> (E.C β (st.sel1 id ts) w).S fr b := fun fr b ⟨h1, h2, h3⟩ => ⟨h1, fun h => h2 (hlv b h), h3⟩
 have hT : ∀ fr t u, Do w.heap ((E.C β st w).S fr) t u -> Do w.heap ((E.C β (st.sel1 id ts) w).S fr) t u := fun fr t u h => h.keep (fun _ _ => rfl) (hS fr)
 obtain ⟨b, cur, q1, q2, q3, q4⟩ : Hi (E.C β st w) id (.box ty cs) := by have := r.ob id; rwa [ho] at this
 have q1 : β id = some b := q1
 have hSb : (E.C β (st.sel1 id ts) w).S false b := by
  obtain ⟨g1, g2⟩ := r.rng id b (by rw [ho]; simp) q1
  refine ⟨g1, ?_, g2.elim .inl fun h => .inr (.inl h)⟩
  rintro ⟨i, h1, h2⟩
  have h1 : β i = some b := h1
  have h2 : ((st.sel1 id ts).o i).live := h2
  rw [R6] at h2
  by_cases e : i = id
  ·rw [if_pos e] at h2; exact h2
  rw [if_neg e] at h2
  refine e (r.inj i id b (fun hg => ?_) (by rw [ho]; simp) h1 q1)
  rw [hg] at h2
  exact h2
 have hrow : ∀ i ty' k fr fz es, st.o i = .row ty' k fr fz es -> (st.sel1 id ts).o i = .row ty' k fr fz es := fun i ty' k fr fz es h => by
  rw [R6, if_neg (fun e => by subst e; rw [ho] at h; cases h), h]
  rfl
 have hV : ∀ (c : AV) (u : Value), Br (E.C β st w) c u -> Br (E.C β (st.sel1 id ts) w) (c.sel1 id ts) u := by
  intro c u h
  have hL : ∀ (cs : List AV) (us : Array Value), (∀ (i : Nat) (c : AV) (u : Value), cs[i]? = some c -> us[i]? = some u -> Br (E.C β (st.sel1 id ts) w) (c.sel1 id ts) u) -> ∀ (i : Nat) (c : AV) (u : Value), (Nl id ts cs)[i]? = some c -> us[i]? = some u -> Br (E.C β (st.sel1 id ts) w) c u := fun cs us ih i c u hc hu => by
   rw [Wg] at hc
   cases hx : cs[i]? with
   | none => rw [hx] at hc; cases hc
   | some x =>
    rw [hx] at hc
    simp only [Ai, Option.some.injEq] at hc
    subst hc
    exact ih i x u hx hu
  induction h with
  | any u => exact .any u
  | lit v => exact .lit v
  | nil k A => exact .nil k A
  | imm fr k es u h => exact .imm _ _ _ _ (hT fr _ _ h)
  | own i n u h =>
   obtain ⟨h1, ty', k, fr, fz, es, h2, h3⟩ := h
   exact .own i n u ⟨h1, ty', k, fr, fz, es, hrow _ _ _ _ _ _ h2, h3⟩
  | sub i n lo m u h =>
   obtain ⟨h1, ty', k, fr, fz, es, h2, h3⟩ := h
   exact .sub i n lo m u ⟨h1, ty', k, fr, fz, es, hrow _ _ _ _ _ _ h2, h3⟩
  | rptr i n j off u h =>
   obtain ⟨h1, ty', k, fr, fz, es, h2, h3⟩ := h
   exact .rptr i n j off u ⟨h1, ty', k, fr, fz, es, hrow _ _ _ _ _ _ h2, h3⟩
  | ptr i off u h =>
   obtain ⟨ty', cs', b', h1, h2, rfl⟩ := h
   have h1 : st.o i = _ := h1
   have h2 : β i = some b' := h2
   by_cases e : i = id
   ·subst e
    rw [q1] at h2
    injection h2 with h2
    subst h2
    have hcell : ∀ (j : Nat) (x : T), ts[j]? = some x -> cur[0 + j]? = some ((cur[j]?).getD undef) /\ Do w.heap ((E.C β (st.sel1 i ts) w).S false) x ((cur[j]?).getD undef) := fun j x hx => by
     obtain ⟨c, g1, g2⟩ := Yy ht j x hx
     have hj : j < cur.size := Nat.lt_of_lt_of_le (Ab.1 g1).1 q3
     have g3 : cur[j]? = some cur[j] := Al hj
     obtain ⟨g4, g5⟩ := q4 j c _ g1 g3
     rw [Bm, g3]
     refine ⟨rfl, ?_⟩
     simp only [Bh]
     generalize cur[j] = u at g4 g5
     cases g4 with
     | lit v => simp only [T9, Option.some.injEq] at g2; subst g2; exact .lit _ g5
     | nil k A => simp only [T9, Option.some.injEq] at g2; subst g2; exact .nil _ _ _
     | imm fr k es u h => simp only [T9, Option.some.injEq] at g2; subst g2; exact VC.T_weak (C := E.C β (st.sel1 i ts) w) (g := false) (hT fr _ _ h) fun e => by cases e
     | fn f cs us k1 k2 =>
      obtain ⟨fr, ts', off', rfl, rfl⟩ := Ad9 g2
      exact VC.T_weak (C := E.C β (st.sel1 i ts) w) (g := false) (hT fr _ _ (Br.fn1 (.fn f _ us k1 k2))) fun e => by cases e
     | _ => cases g2
    have := Br.iptr (C := E.C β (st.sel1 i ts) w) false ts off b 0 cur ty (0, 0) (fun j => (cur[j]?).getD undef) q2 hSb hcell
    rw [Bm] at this
    simp only [AV.sel1, beq_self_eq_true, cond_true]
    exact this
   have e' : (i == id) = false := by simpa using e
   simp only [AV.sel1, e', cond_false]
   exact .ptr i off _ ⟨ty', Nl id ts cs', b', by show (st.sel1 id ts).o i = _; rw [R6, if_neg e, h1]; rfl, h2, rfl⟩
  | bsl i n u h =>
   obtain ⟨ty', cs', b', c', h1, h2, h3⟩ := h
   have h1 : st.o i = _ := h1
   by_cases e : i = id
   ·subst e
    simp only [AV.sel1, beq_self_eq_true, cond_true]
    exact .any _
   have e' : (i == id) = false := by simpa using e
   simp only [AV.sel1, e', cond_false]
   exact .bsl i n _ ⟨ty', Nl id ts cs', b', c', by show (st.sel1 id ts).o i = _; rw [R6, if_neg e, h1]; rfl, h2, h3⟩
  | iptr fr cs off b o cur ty fz us h1 h2 h3 => exact .iptr fr cs off b o cur ty fz us h1 (hS fr b h2) fun j x hx => ⟨(h3 j x hx).1, hT fr _ _ (h3 j x hx).2⟩
  | agg cs us h1 h2 ih => exact .agg _ _ (by rw [Kf]; exact h1) (hL cs us ih)
  | tup cs us h1 h2 ih => exact .tup _ _ (by rw [Kf]; exact h1) (hL cs us ih)
  | fn f cs us h1 h2 ih => exact .fn f _ _ (by rw [Kf]; exact h1) (hL cs us ih)
  | gd t v u h1 h2 ih => exact .gd t _ u (fun e => ih e) h2
 have hng : ∀ i, (st.sel1 id ts).o i ≠ .gone -> st.o i ≠ .gone := fun i h e => h (by rw [R6, e]; split <;> rfl)
 refine ⟨r.sz, fun t => ?_, r.df, fun i => ?_, fun i j b hi hj => r.inj i j b (hng i hi) (hng j hj), fun i b hi => r.rng i b (hng i hi), r.kp, ⟨fun i ty' cs' h => ?_, fun i ty' k fr fz es h => ?_⟩, r.kb, r.dk⟩
 ·show Br _ (Ce (Acq id ts st.sl) t) _
  rw [Aak]
  exact hV _ _ (r.sl t)
 ·rw [R6]
  by_cases e : i = id
  ·rw [if_pos e]; trivial
  rw [if_neg e]
  have := r.ob i
  cases hq : st.o i with
  | gone => trivial
  | row ty' k fr fz es =>
   rw [hq] at this
   obtain ⟨h1, h2⟩ := this
   refine ⟨h1, ?_⟩
   cases hb : (E.C β (st.sel1 id ts) w).β i with
   | none =>
    have hb : β i = none := hb
    have h2 : (match β i with | none => es = [] | some b => _) := h2
    rw [hb] at h2; exact h2
   | some b =>
    have hb : β i = some b := hb
    have h2 : (match β i with | none => es = [] | some b => _) := h2
    rw [hb] at h2
    obtain ⟨cur, c, g1, g2, g3, g4, g5⟩ := h2
    exact ⟨cur, c, g1, g2, g3, g4, fun i e j x he hx => let ⟨u, p1, p2⟩ := g5 i e j x he hx; ⟨u, p1, hT _ _ _ p2⟩⟩
  | box ty' cs' =>
   rw [hq] at this
   obtain ⟨b, cur, g1, g2, g3, g4⟩ := this
   refine ⟨b, cur, g1, g2, by rw [Kf]; exact g3, fun j c u hc hu => ?_⟩
   rw [Wg] at hc
   cases hx : cs'[j]? with
   | none => rw [hx] at hc; cases hc
   | some x =>
    rw [hx] at hc
    simp only [Ai, Option.some.injEq] at hc
    subst hc
    exact ⟨hV _ _ (g4 j x u hx hu).1, (g4 j x u hx hu).2⟩
 ·obtain ⟨⟨cs2, h1⟩, h2⟩ := r.ct.box i ty' cs' h
  have e : i ≠ id := fun e => by subst e; rw [hE] at h; cases h
  have h1 : st.o i = _ := h1
  exact ⟨⟨_, by show (st.sel1 id ts).o i = _; rw [R6, if_neg e, h1]; rfl⟩, h2⟩
 obtain ⟨fr', fz', es', h1, h2⟩ := r.ct.row i ty' k fr fz es h
 exact ⟨fr', fz', es', hrow _ _ _ _ _ _ h1, h2⟩
section
variable {P : Program} {n m : Nat} {st : St} {K : Exit -> St -> Prop} {c : Code}
theorem VW.sel1 (id : Nat) {ty : TypeId} {cs : List AV} (ho : st.o id = .box ty cs) {ts : List T} (ht : ttL cs = some ts) (hm : m <= id) (hv : VW P n m c (st.sel1 id ts) K) : VW P n m c st K := fun E F hE hF β a w r =>
 hv E F hE hF β a w (r.sel1 ho ht (hE.2 id hm))
theorem VX.sel1 (id : Nat) {ty : TypeId} {cs : List AV} (ho : st.o id = .box ty cs) {ts : List T} (ht : ttL cs = some ts) (hm : m <= id) (hv : VX P n m c (st.sel1 id ts) K) : VX P n m c st K := by
 obtain ⟨e, s, h1, h2⟩ := hv
 exact ⟨e, s, .sel1 id ho ht hm h1, h2⟩
end
attribute [go_sem] St.sel1 Acq Xf Nl AV.sel1 Ob.sel1
theorem R2 (x : T) : Vp [.iptr false [x] 0] := by
 constructor <;> intros <;> first | rfl | exact ⟨trivial, trivial⟩
theorem Pp : Vp [] := by
 constructor <;> intros <;> first | rfl | exact trivial
end Go.Proofs.YtkkimgjinbaemaaGreat
