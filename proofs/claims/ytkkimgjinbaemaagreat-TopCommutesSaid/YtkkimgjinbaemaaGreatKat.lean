/- The walk. -/
import Derived.Test.YtkkimgjinbaemaaGreatKas
namespace Go.Proofs.YtkkimgjinbaemaaGreat
open Go.RowKit
set_option linter.unusedVariables false
set_option linter.unusedSimpArgs false
set_option maxRecDepth 100000
set_option maxHeartbeats 4000000
def Kg (s : C8) (c : Cj) : Int := if c.ph < 0 \/ (s.ended.length : Int) <= c.ph then -1 else (s.ended[c.ph.toNat]?).getD 0
def Mn (n d : Int) : Int :=
 if d = 0 then 0
 else if n.tmod d ≠ 0 /\ (decide (n < 0) != decide (d < 0)) = true then IntKind.i64.wrap (IntKind.i64.wrap (n.tdiv d) - 1) else IntKind.i64.wrap (n.tdiv d)
def N9 (s : C8) (c : Cj) : Int := if Kg s c > c.si then Kg s c else c.si
def Aef (cap per : Int) (s : C8) (c : Cj) (now : Int) : Int :=
 if IntKind.i64.wrap (c.cls + Mn (IntKind.i64.wrap (now - N9 s c)) per) < cap then IntKind.i64.wrap (c.cls + Mn (IntKind.i64.wrap (now - N9 s c)) per) else cap
def U6 (lock : Int) (s : C8) (c : Cj) (now : Int) : Bool := !Lg c && (Kg s c != -1) && decide (IntKind.i64.wrap (now - Kg s c) <= lock)
theorem Ur (s : C8) (c : Cj) : PP 216 [] [s.g, c.g] [] (.li (Kg s c)) := by
 refine B0 Tryz.func216 ?_
 refine VW.R <| .seq ?_
 refine VW.R ?_
 refine VW.C ?_ ?_ <;> intro h15 <;> simp [go_sem] at h15
 ·refine VW.R ?_
  refine VW.ret (B2 (by simp [go_sem]) ?_)
  first
   | (simp [go_sem, Kg, h15]; done)
   | (simp [go_sem, Kg, *]; done)
   | (simp [go_sem]; unfold Kg; (repeat' split) <;> first | (simp_all; done) | (simp_all; omega) | (simp at *; omega))
 have hx : s.ended[c.ph.toNat]? = some s.ended[c.ph.toNat] := Aa (by omega)
 generalize s.ended[c.ph.toNat] = e at hx
 refine VW.skip <| .H hx ?_
 refine VW.ret (B2 (by simp [go_sem]) ?_)
 first
  | (simp [go_sem, Kg, h15]; done)
  | (simp [go_sem, Kg, *]; done)
  | (simp [go_sem]; unfold Kg; (repeat' split) <;> first | (simp_all; done) | (simp_all; omega) | (simp at *; omega))
theorem X7 (n d : Int) : PP 246 [] [.li n, .li d] [] (.li (Mn n d)) := by
 refine B0 Tryz.func246 ?_
 refine VW.R <| .seq ?_
 refine VW.R ?_
 refine VW.C ?_ ?_ <;> intro h7 <;> simp [go_sem] at h7
 ·refine VW.R ?_
  refine VW.ret (B2 (by simp [go_sem]) ?_)
  first
   | (simp [go_sem, Mn, h7]; done)
   | (simp [go_sem, Mn, *]; done)
   | (simp [go_sem]; unfold Mn; (repeat' split) <;> first | (simp_all; done) | (simp_all; omega) | (simp at *; omega))
 refine VW.skip <| .H ok0 <| .seq ?_
 refine VW.H ok0 ?_
 refine VW.C ?_ ?_ <;> intro h21 <;> simp [go_sem] at h21
 ·refine VW.R1 ?_
  refine VW.R ?_
  refine VW.ret (B2 (by simp [go_sem]) ?_)
  first
   | (simp [go_sem, Mn, h7, h21]; done)
   | (simp [go_sem, Mn, *]; done)
   | (simp [go_sem]; unfold Mn; (repeat' split) <;> first | (simp_all; done) | (simp_all; omega) | (simp at *; omega))
 refine VW.skip <| .R ?_
 refine VW.ret (B2 (by simp [go_sem]) ?_)
 first
  | (simp [go_sem, Mn, h7, h21]; done)
  | (simp [go_sem, Mn, *]; done)
  | (simp [go_sem]; unfold Mn; (repeat' split) <;> first | (simp_all; done) | (simp_all; omega) | (simp at *; omega))
theorem Kd (s : C8) (c : Cj) : PP 218 [] [s.g, c.g] [] (.li (N9 s c)) := by
 refine B0 Tryz.func218 ?_
 refine VW.R ?_
 refine VW.M ok0 (Ur s c) ?_
 refine VW.ret (B2 (by simp [go_sem]) ?_)
 simp [go_sem, N9]
theorem Us (g : Dy) (s : C8) (c : Cj) (now : Int) : PP 217 [] [g.g, s.g, c.g, .li now] [] (.li (Aef g.cap g.per s c now)) := by
 refine B0 Tryz.func217 ?_
 refine VW.R ?_
 refine VW.E (fun K kk => by simp [go_sem]; refine .l (Kd s c) ?_; simp [go_sem]; refine .lo (X7 _ _) rfl (by simp) ?_; simp [go_sem]; exact kk) ?_
 refine VW.ret (B2 (by simp [go_sem]) ?_)
 simp [go_sem, Aef]
theorem Abt (g : Dy) (s : C8) (c : Cj) (now : Int) : PP 199 [] [g.g, s.g, c.g, .li now] [] (.lb (U6 g.lock s c now)) := by
 refine B0 Tryz.func199 ?_
 refine VW.R ?_
 refine VW.L ok0 (Ur s c) ?_
 refine VW.L ok0 (Gn c) ?_
 refine VW.ret (B2 (by simp [go_sem]) ?_)
 simp [go_sem, U6]
def rkW (cap per : Int) (s : C8) (now : Int) (u : Bool) (c : Cj) : Int := if u then c.cls else Aef cap per s c now
def Ek (cap per : Int) (s : C8) (now : Int) (a b : Cj) : Bool :=
 if Lg a != Lg b then Lg a
 else if rkW cap per s now (Lg a) a ≠ rkW cap per s now (Lg a) b then decide (rkW cap per s now (Lg a) b < rkW cap per s now (Lg a) a)
 else if N9 s a ≠ N9 s b then decide (N9 s a < N9 s b)
 else if a.ag ≠ b.ag then decide (a.ag < b.ag) else decide (a.id < b.id)
theorem W7 (g : Dy) (s : C8) (now : Int) (a b : Cj) : PP 200 [] [g.g, s.g, .li now, a.g, b.g] [] (.lb (Ek g.cap g.per s now a b)) := by
 refine B0 Tryz.func200 ?_
 refine VW.R ?_
 refine VW.L ok0 (Gn a) <| .seq ?_
 refine VW.L ok0 (Gn b) ?_
 refine VW.C ?_ ?_ <;> intro h21 <;> simp [go_sem] at h21
 ·refine VW.R ?_
  refine VW.ret (B2 (by simp [go_sem]) ?_)
  first
   | (simp [go_sem, Ek, rkW, h21]; done)
   | (simp [go_sem, Ek, rkW, *]; done)
   | (simp [go_sem]; unfold Ek rkW; (repeat' split) <;> first | (simp_all; done) | (simp_all; omega) | (simp at *; omega))
 refine VW.skip <| .D <| .seq ?_
 refine VW.R ?_
 refine VW.C ?_ ?_ <;> intro h28 <;> simp [go_sem] at h28
 ·refine VW.E1 (fun K kk => by simp [go_sem]; refine .l (Us g s a now) ?_; simp [go_sem]; refine .l (Us g s b now) ?_; simp [go_sem]; exact kk) <| .seq ?_
  refine VW.R ?_
  refine VW.C ?_ ?_ <;> intro h41 <;> simp [go_sem] at h41
  ·refine VW.R ?_
   refine VW.ret (B2 (by simp [go_sem]) ?_)
   first
    | (simp [go_sem, Ek, rkW, h21, h28, h41]; done)
    | (simp [go_sem, Ek, rkW, *]; done)
    | (simp [go_sem]; unfold Ek rkW; (repeat' split) <;> first | (simp_all; done) | (simp_all; omega) | (simp at *; omega))
  refine VW.skip <| .E (fun K kk => by simp [go_sem]; refine .l (Kd s a) ?_; simp [go_sem]; refine .l (Kd s b) ?_; simp [go_sem]; exact kk) <| .seq ?_
  refine VW.R ?_
  refine VW.C ?_ ?_ <;> intro h53 <;> simp [go_sem] at h53
  ·refine VW.R ?_
   refine VW.ret (B2 (by simp [go_sem]) ?_)
   first
    | (simp [go_sem, Ek, rkW, h21, h28, h41, h53]; done)
    | (simp [go_sem, Ek, rkW, *]; done)
    | (simp [go_sem]; unfold Ek rkW; (repeat' split) <;> first | (simp_all; done) | (simp_all; omega) | (simp at *; omega))
  refine VW.skip <| .seq <| .R ?_
  refine VW.C ?_ ?_ <;> intro h61 <;> simp [go_sem] at h61
  ·refine VW.R ?_
   refine VW.ret (B2 (by simp [go_sem]) ?_)
   first
    | (simp [go_sem, Ek, rkW, h21, h28, h41, h53, h61]; done)
    | (simp [go_sem, Ek, rkW, *]; done)
    | (simp [go_sem]; unfold Ek rkW; (repeat' split) <;> first | (simp_all; done) | (simp_all; omega) | (simp at *; omega))
  refine VW.skip <| .R ?_
  refine VW.ret (B2 (by simp [go_sem]) ?_)
  first
   | (simp [go_sem, Ek, rkW, h21, h28, h41, h53, h61]; done)
   | (simp [go_sem, Ek, rkW, *]; done)
   | (simp [go_sem]; unfold Ek rkW; (repeat' split) <;> first | (simp_all; done) | (simp_all; omega) | (simp at *; omega))
 refine VW.skip <| .seq <| .R ?_
 refine VW.C ?_ ?_ <;> intro h41 <;> simp [go_sem] at h41
 ·refine VW.R ?_
  refine VW.ret (B2 (by simp [go_sem]) ?_)
  first
   | (simp [go_sem, Ek, rkW, h21, h28, h41]; done)
   | (simp [go_sem, Ek, rkW, *]; done)
   | (simp [go_sem]; unfold Ek rkW; (repeat' split) <;> first | (simp_all; done) | (simp_all; omega) | (simp at *; omega))
 refine VW.skip <| .E (fun K kk => by simp [go_sem]; refine .l (Kd s a) ?_; simp [go_sem]; refine .l (Kd s b) ?_; simp [go_sem]; exact kk) <| .seq ?_
 refine VW.R ?_
 refine VW.C ?_ ?_ <;> intro h53 <;> simp [go_sem] at h53
 ·refine VW.R ?_
  refine VW.ret (B2 (by simp [go_sem]) ?_)
  first
   | (simp [go_sem, Ek, rkW, h21, h28, h41, h53]; done)
   | (simp [go_sem, Ek, rkW, *]; done)
   | (simp [go_sem]; unfold Ek rkW; (repeat' split) <;> first | (simp_all; done) | (simp_all; omega) | (simp at *; omega))
 refine VW.skip <| .seq <| .R ?_
 refine VW.C ?_ ?_ <;> intro h61 <;> simp [go_sem] at h61
 ·refine VW.R ?_
  refine VW.ret (B2 (by simp [go_sem]) ?_)
  first
   | (simp [go_sem, Ek, rkW, h21, h28, h41, h53, h61]; done)
   | (simp [go_sem, Ek, rkW, *]; done)
   | (simp [go_sem]; unfold Ek rkW; (repeat' split) <;> first | (simp_all; done) | (simp_all; omega) | (simp at *; omega))
 refine VW.skip <| .R ?_
 refine VW.ret (B2 (by simp [go_sem]) ?_)
 first
  | (simp [go_sem, Ek, rkW, h21, h28, h41, h53, h61]; done)
  | (simp [go_sem, Ek, rkW, *]; done)
  | (simp [go_sem]; unfold Ek rkW; (repeat' split) <;> first | (simp_all; done) | (simp_all; omega) | (simp at *; omega))
def Ei (cap per lock : Int) (s : C8) (now : Int) (l : List Cj) : Nat -> Int
 | 0 => -1
 | i + 1 => match l[i]? with
  | none => Ei cap per lock s now l i
  | some c => if U6 lock s c now then Ei cap per lock s now l i
   else if Ei cap per lock s now l i < 0 then i
   else match l[(Ei cap per lock s now l i).toNat]? with
    | none => i
    | some b => if Ek cap per s now c b then i else Ei cap per lock s now l i
theorem I1 {cap per lock : Int} {s : C8} {now : Int} {l : List Cj} {i : Nat} {c : Cj} (h : l[i]? = some c) : Ei cap per lock s now l (i + 1) = if U6 lock s c now then Ei cap per lock s now l i
 else if Ei cap per lock s now l i < 0 then i
  else match l[(Ei cap per lock s now l i).toNat]? with
   | none => (i : Int)
   | some b => if Ek cap per s now c b then i else Ei cap per lock s now l i := by
 simp only [Ei, h]
def Aeg (cap per lock : Int) (s : C8) (now : Int) (l : List Cj) : Int := Ei cap per lock s now l l.length
theorem Xh (cap per lock : Int) (s : C8) (now : Int) (l : List Cj) : ∀ i, i <= l.length -> -1 <= Ei cap per lock s now l i /\ Ei cap per lock s now l i < l.length
 | 0, h => by simp only [Ei]; omega
 | i + 1, h => by
  have ih := Xh cap per lock s now l i (by omega)
  simp only [Ei]
  repeat' split
  all_goals omega
theorem W8 (g : Dy) (s : C8) (now : Int) (l : List Cj) (hl : l.length <= 1000000) : PP 174 [] [g.g, s.g, .li now, .mClaim l] [] (.li (Aeg g.cap g.per g.lock s now l)) := by
 refine B0 Tryz.func174 ?_
 refine VW.R ?_
 refine VW.R <| .seq ?_
 refine VW.R <| .block ?_
 refine VW.range l.length (fun i1 => ⟨[(2, .li now), (3, .mClaim l), (4, .ptr 0 0), (5, .ptr 1 0), (9, .li (Ei g.cap g.per g.lock s now l i1)), (12, .mClaim l), (13, .li l.length), (14, .li i1)], [.box 30 [.mJun g.juns, .mAg g.ags, .li g.per, .li g.cap, .li g.hold, .li g.lock], .box 138 [.li s.ph, .li s.gr, .mI s.ended]]⟩) ⟨[0, 1], Bp (by decide) ?_ ?_, by simp⟩ fun i1 hi1 => ?_
 ·simp [go_sem, Ei]
 ·simp [go_sem, Ei]
 refine VW.R <| .seq ?_
 refine VW.C ?_ ?_ <;> intro h15 <;> simp [go_sem] at h15
 ·have hx : l[i1]? = some l[i1] := Aa h15
  generalize l[i1] = c at hx
  refine VW.skip <| .seq <| .block <| .H hx <| .seq ?_
  refine VW.L hx (Abt g s c now) ?_
  refine VW.C ?_ ?_ <;> intro h23 <;> simp [go_sem] at h23
  ·refine VW.exit <| .R1 ?_
   refine ⟨by omega, [0, 1], Bp (by decide) ?_ ?_, by simp⟩
   ·simp [go_sem, Bq ((i1 : Int) + 1), I1 hx, h15, h23]
   simp [go_sem]
  refine VW.skip ?_
  have hbt := Xh g.cap g.per g.lock s now l i1 hi1
  have hsu := I1 (cap := g.cap) (per := g.per) (lock := g.lock) (s := s) (now := now) hx
  generalize hB : Ei g.cap g.per g.lock s now l i1 = B at *
  rcases (by omega : B < 0 \/ 0 <= B) with hy | hb
  ·refine VW.draw_seq (by kernel_rfl) (by rfl) (by kernel_rfl) fun K1 hK1 => ?_
   simp [go_sem, hx, hy]
   repeat' with_reducible refine Ax ?_ ?_
   all_goals try (intros; (repeat' refine Ax ?_ ?_) <;> omega)
   refine Jq (by simp [go_sem]) (by simp [go_sem]) ?_
   simp [go_sem, hx, hy]
   first | refine .lo (W7 g s now c y) rfl (by simp) ?_ | refine .skip ?_
   simp [go_sem, hx, hy]
   refine hK1 _ _ (by kernel_rfl) ?_; clear hK1
   refine VW.C ?_ ?_ <;> intro h36 <;> simp [go_sem] at h36
   try (simp only [hnb, false_or] at h36)
   refine VW.R1 ?_
   refine VW.R1 ?_
   refine ⟨by omega, [0, 1], Bp (by decide) ?_ ?_, by simp⟩
   ·simp [go_sem, Bq ((i1 : Int) + 1), I1 hx, hB, hy, h15, h23, h36]
   simp [go_sem]
  have hnb : ¬ B < 0 := by omega
  have hy : l[B.toNat]? = some l[B.toNat] := Aa (by omega)
  generalize l[B.toNat] = y at hy
  refine VW.draw_seq (by kernel_rfl) (by rfl) (by kernel_rfl) fun K1 hK1 => ?_
  simp [go_sem, hx, hy]
  repeat' with_reducible refine Ax ?_ ?_
  all_goals try (intros; (repeat' refine Ax ?_ ?_) <;> omega)
  refine Jq (by simp [go_sem]) (by simp [go_sem]) ?_
  simp [go_sem, hx, hy]
  first | refine .lo (W7 g s now c y) rfl (by simp) ?_ | refine .skip ?_
  simp [go_sem, hx, hy]
  refine hK1 _ _ (by kernel_rfl) ?_; clear hK1
  refine VW.C ?_ ?_ <;> intro h36 <;> simp [go_sem] at h36
  ·try (simp only [hnb, false_or] at h36)
   refine VW.R1 ?_
   refine VW.R1 ?_
   refine ⟨by omega, [0, 1], Bp (by decide) ?_ ?_, by simp⟩
   ·simp [go_sem, Bq ((i1 : Int) + 1), I1 hx, hB, hy, hnb, h15, h23, h36]
   simp [go_sem]
  refine VW.skip <| .R1 ?_
  refine ⟨by omega, [0, 1], Bp (by decide) ?_ ?_, by simp⟩
  ·simp [go_sem, Bq ((i1 : Int) + 1), I1 hx, hB, hy, hnb, h15, h23, h36]
  simp [go_sem]
 have he : i1 = l.length := by omega
 subst he
 refine VW.exit <| .R ?_
 refine VW.ret (B2 (by simp [go_sem]) ?_)
 first
  | (simp [go_sem, Aeg, h15]; done)
  | (simp [go_sem, Aeg, *]; done)
  | (simp [go_sem]; unfold Aeg; (repeat' split) <;> first | (simp_all; done) | (simp_all; omega) | (simp at *; omega))
section
variable {P : Program} {n m : Nat} {K : Exit -> St -> Prop}
theorem VW.slots {sl sl' : List (Nat × AV)} {ob : List Ob} {c : Code} (h : ∀ t, Le (Ce sl t) (Ce sl' t)) (hv : VW P n m c ⟨sl', ob⟩ K) : VW P n m c ⟨sl, ob⟩ K := fun E F hE hF β a w r =>
 hv E F hE hF β a w ⟨r.sz, fun t => h t _ _ (r.sl t), r.df, r.ob, r.inj, r.rng, r.kp, r.ct, r.kb, r.dk⟩
inductive OrC (n t a : Nat) (k : IntKind) : Code -> List Int -> List Nat -> Prop
  | one {id d : Nat} {x : Int} {ty ty1 ty2 : TypeId} {p1 p2 : String} {a1 a2 : Array Edge} : d < n -> (d == t) = false -> (d == a) = false -> OrC n t a k (.region id #[⟨some d, .binOp .eql ty (.tmp a) (.const (.int k x)) ty, ty1, p1, a1, none⟩, ⟨some t, .assign (.tmp d), ty2, p2, a2, none⟩] false) [x] [d]
  | more {id d : Nat} {x : Int} {ty ty1 ty2 : TypeId} {p1 p2 : String} {a1 a2 : Array Edge} {X : Code} {xs : List Int} {ds : List Nat} : d < n -> (d == t) = false -> (d == a) = false -> OrC n t a k X xs ds -> OrC n t a k (.seq (.region id #[⟨some d, .binOp .eql ty (.tmp a) (.const (.int k x)) ty, ty1, p1, a1, none⟩, ⟨some t, .assign (.tmp d), ty2, p2, a2, none⟩] false) (.cond (.tmp t) .skip X)) (x :: xs) (d :: ds)
theorem Ank {t a : Nat} {k : IntKind} {v : Int} {ob : List Ob} (ht : t < n) (hta : (t == a) = false) : ∀ {X : Code} {xs : List Int} {ds : List Nat}, OrC n t a k X xs ds -> ∀ (sl : List (Nat × AV)) (b : Bool), Ce sl t = .lb b -> Ce sl a = .lit (.int k v) ->
 (∀ sl', (∀ u, (∀ d ∈ ds, u ≠ d) -> Le (Ce sl' u) (Ce ((t, .lb (b || xs.any fun x => v == x)) :: sl) u)) -> K .normal ⟨sl', ob⟩) -> VW P n m (.cond (.tmp t) .skip X) ⟨sl, ob⟩ K := by
 intro X xs ds h
 induction h with
 | @one id d x ty ty1 ty2 p1 p2 a1 a2 hd hdt hda =>
  intro sl b hb ha hK
  refine .cond (by simp [go_sem, hb]) (by simp [go_sem, hb]) (fun h => ?_) fun h => ?_
  ·simp [go_sem, hb] at h
   refine .skip (hK sl fun u _ => ?_)
   simp only [Ce]
   by_cases e : t = u
   ·subst e; simp [hb, h, Qn]
   have : (t == u) = false := by simp [e]
   simp [this, Qn]
  simp [go_sem, hb] at h
  refine VW.region1 (l := [⟨some d, .binOp .eql ty (.tmp a) (.const (.int k x)) ty, ty1, p1, a1, none⟩, ⟨some t, .assign (.tmp d), ty2, p2, a2, none⟩]) (by simp [Cw, ht, hd]) fun K1 hK1 => ?_
  simp [go_sem, ha]
  refine hK1 _ (hK _ fun u hu => ?_)
  have hud : (d == u) = false := by have := hu d (by simp); simp [Ne.symm this]
  simp only [Ce, hud, cond_false]
  by_cases e : t = u
  ·subst e; simp [h, Qn]
  have : (t == u) = false := by simp [e]
  simp [this, Qn]
 | @more id d x ty ty1 ty2 p1 p2 a1 a2 X xs ds hd hdt hda _ ih =>
  intro sl b hb ha hK
  refine .cond (by simp [go_sem, hb]) (by simp [go_sem, hb]) (fun h => ?_) fun h => ?_
  ·simp [go_sem, hb] at h
   refine .skip (hK sl fun u _ => ?_)
   simp only [Ce]
   by_cases e : t = u
   ·subst e; simp [hb, h, Qn]
   have : (t == u) = false := by simp [e]
   simp [this, Qn]
  simp [go_sem, hb] at h
  refine VW.region_seq (l := [⟨some d, .binOp .eql ty (.tmp a) (.const (.int k x)) ty, ty1, p1, a1, none⟩, ⟨some t, .assign (.tmp d), ty2, p2, a2, none⟩]) (by simp [Cw, ht, hd]) fun K1 hK1 => ?_
  simp [go_sem, ha]
  refine hK1 _ (ih _ (v == x) (by simp [Ce]) (by simp [Ce, hta, hda, ha]) fun sl' hsl => hK sl' fun u hu => ?_)
  have hq := hsl u fun d' hd' => hu d' (by simp [hd'])
  have hud : (d == u) = false := by have := hu d (by simp); simp [Ne.symm this]
  simp only [Ce, hud, cond_false] at hq ⊢
  by_cases e : t = u
  ·subst e; simpa [h] using hq
  have : (t == u) = false := by simp [e]
  simpa [this] using hq
theorem VW.orcases1 {t a : Nat} {k : IntKind} {v : Int} {sl : List (Nat × AV)} {ob : List Ob} {b : Bool} {X y : Code} {xs : List Int} {ds : List Nat} (h : OrC n t a k X xs ds) (ht : t < n) (hta : (t == a) = false) (hb : Ce sl t = .lb b) (ha : Ce sl a = .lit (.int k v)) (hds : ∀ d ∈ ds, Ce ((t, .lb (b || xs.any fun x => v == x)) :: sl) d = .any)
 (hy : VW P n m y ⟨(t, .lb (b || xs.any fun x => v == x)) :: sl, ob⟩ K) : VW P n m (.cond (.tmp t) .skip X) ⟨sl, ob⟩ (Exit.vthen (fun s => VW P n m y s K) K) :=
 Ank ht hta h sl b hb ha fun sl' hsl => .slots (fun u => by
  by_cases hu : u ∈ ds
  ·rw [hds u hu]; exact Le.any _
  exact hsl u fun d hd e => hu (e ▸ hd)) hy
end
def Dl (k : Int) : Int :=
 if k = 6 \/ k = 7 \/ k = 8 then 1 else if k = 4 \/ k = 5 then 2 else if k = 2 then 4 else if k = 3 then 8 else if k = 10 then 16 else if k = 11 then 32 else 0
def Acw (r k : Int) : Bool := Su r && (Cm .and .i64 r (Dl k) == Dl k)
theorem X4 (k : Int) : PP 251 [] [.li k] [] (.li (Dl k)) := by
 refine B0 Tryz.func251 ?_
 refine VW.R <| .seq ?_
 refine VW.R <| .block <| .seq ?_
 refine VW.R ?_
 refine VW.orcases1 (.more (by decide) rfl rfl (.one (by decide) rfl rfl)) (by decide) rfl (by simp [go_sem]; rfl) (by simp [go_sem]; rfl) (by simp [go_sem]) ?_
 refine VW.C ?_ ?_ <;> intro h4 <;> simp [go_sem] at h4
 ·refine VW.R ?_
  refine VW.ret (B2 (by simp [go_sem]) ?_)
  first
   | (simp [go_sem, Dl, h4]; done)
   | (simp [go_sem, Dl, *]; done)
   | (simp [go_sem]; unfold Dl; (repeat' split) <;> first | (simp_all; done) | (simp_all; omega) | (simp at *; omega))
 refine VW.seq <| .R ?_
 refine VW.orcases1 (.one (by decide) rfl rfl) (by decide) rfl (by simp [go_sem]; rfl) (by simp [go_sem]; rfl) (by simp [go_sem]) ?_
 refine VW.C ?_ ?_ <;> intro h8 <;> simp [go_sem] at h8
 ·refine VW.R ?_
  refine VW.ret (B2 (by simp [go_sem]) ?_)
  first
   | (simp [go_sem, Dl, h4, h8]; done)
   | (simp [go_sem, Dl, *]; done)
   | (simp [go_sem]; unfold Dl; (repeat' split) <;> first | (simp_all; done) | (simp_all; omega) | (simp at *; omega))
 refine VW.R ?_
 refine VW.C ?_ ?_ <;> intro h11 <;> simp [go_sem] at h11
 ·refine VW.R ?_
  refine VW.ret (B2 (by simp [go_sem]) ?_)
  first
   | (simp [go_sem, Dl, h4, h8, h11]; done)
   | (simp [go_sem, Dl, *]; done)
   | (simp [go_sem]; unfold Dl; (repeat' split) <;> first | (simp_all; done) | (simp_all; omega) | (simp at *; omega))
 refine VW.R ?_
 refine VW.C ?_ ?_ <;> intro h13 <;> simp [go_sem] at h13
 ·refine VW.R ?_
  refine VW.ret (B2 (by simp [go_sem]) ?_)
  first
   | (simp [go_sem, Dl, h4, h8, h11, h13]; done)
   | (simp [go_sem, Dl, *]; done)
   | (simp [go_sem]; unfold Dl; (repeat' split) <;> first | (simp_all; done) | (simp_all; omega) | (simp at *; omega))
 refine VW.R ?_
 refine VW.C ?_ ?_ <;> intro h15 <;> simp [go_sem] at h15
 ·refine VW.R ?_
  refine VW.ret (B2 (by simp [go_sem]) ?_)
  first
   | (simp [go_sem, Dl, h4, h8, h11, h13, h15]; done)
   | (simp [go_sem, Dl, *]; done)
   | (simp [go_sem]; unfold Dl; (repeat' split) <;> first | (simp_all; done) | (simp_all; omega) | (simp at *; omega))
 refine VW.R ?_
 refine VW.C ?_ ?_ <;> intro h17 <;> simp [go_sem] at h17
 ·refine VW.R ?_
  refine VW.ret (B2 (by simp [go_sem]) ?_)
  first
   | (simp [go_sem, Dl, h4, h8, h11, h13, h15, h17]; done)
   | (simp [go_sem, Dl, *]; done)
   | (simp [go_sem]; unfold Dl; (repeat' split) <;> first | (simp_all; done) | (simp_all; omega) | (simp at *; omega))
 refine VW.skip <| .R ?_
 refine VW.ret (B2 (by simp [go_sem]) ?_)
 first
  | (simp [go_sem, Dl, h4, h8, h11, h13, h15, h17]; done)
  | (simp [go_sem, Dl, *]; done)
  | (simp [go_sem]; unfold Dl; (repeat' split) <;> first | (simp_all; done) | (simp_all; omega) | (simp at *; omega))
theorem V9 (r k : Int) : PP 230 [] [.li r, .li k] [] (.lb (Acw r k)) := by
 refine B0 Tryz.func230 ?_
 refine VW.R ?_
 refine VW.L ok0 (X4 k) ?_
 refine VW.L ok0 (Ka r) ?_
 refine VW.ret (B2 (by simp [go_sem]) ?_)
 simp [go_sem, Acw]
def Nf : Dc := ⟨false, [], -1, 0, 0, 0⟩
def Aga (t : Dc) : Bool := !t.used && ((t.sec.length : Int) == 0) && (t.par == -1) && (t.ri == 0) && (t.cls == 0) && (t.unt == 0)
def Aj1 (a b : Int) : Bool := (b != 0) && ((a == 0) || decide (b < a))
def Acj (t : Dc) (now : Int) : Bool := (t.unt != 0) && decide (t.unt < now)
def Aj0 (t : Dc) : Bool := ((t.sec.length : Int) == 8) && Su t.ri && decide (0 <= t.cls) && decide (t.cls <= 3) && decide (0 <= t.unt) && decide (t.unt <= 2147483648)
theorem P4  : PP 143 [] [] [] (Nf.g) := by
 refine B0 Tryz.func143 ?_
 iterate 2 refine VW.R ?_
 refine VW.ret (B2 (by simp [go_sem]) ?_)
 simp [go_sem, Nf]
theorem Zn (t : Dc) : PP 271 [] [t.g] [] (.lb (Aga t)) := by
 refine B0 Tryz.func271 ?_
 iterate 2 refine VW.R ?_
 refine VW.ret (B2 (by simp [go_sem]) ?_)
 simp [go_sem, Aga]
theorem Ov (a b : Int) : PP 273 [] [.li a, .li b] [] (.lb (Aj1 a b)) := by
 refine B0 Tryz.func273 ?_
 refine VW.R ?_
 refine VW.S (fun K kk => by simp +contextual [go_sem]; exact kk) ?_
 refine VW.ret (B2 (by simp [go_sem]) ?_)
 simp [go_sem, Aj1]
theorem Qw (t : Dc) (now : Int) : PP 185 [] [t.g, .li now] [] (.lb (Acj t now)) := by
 refine B0 Tryz.func185 ?_
 iterate 2 refine VW.R ?_
 refine VW.ret (B2 (by simp [go_sem]) ?_)
 simp [go_sem, Acj]
theorem Tg (t : Dc) : PP 270 [] [t.g] [] (.lb (Aj0 t)) := by
 refine B0 Tryz.func270 ?_
 refine VW.R ?_
 refine VW.region_seq (by rfl) fun K1 hK1 => ?_
 simp [go_sem]
 refine Bz (by simp [go_sem]) (by simp [go_sem]) ?_
 simp [go_sem]
 first | refine .lo (Ka t.ri) rfl (by simp) ?_ | refine .skip ?_
 simp [go_sem]
 refine hK1 _ ?_; clear hK1
 refine VW.ret (B2 (by simp [go_sem]) ?_)
 simp [go_sem, Aj0]
def Ee (l : List Dc) (s : Int) : Bool := decide (0 <= s) && match l[s.toNat]? with
 | some t => t.used
 | none => false
theorem Ms (l : List Dc) (s : Int) : PP 207 [] [.mTok l, .li s] [] (.lb (Ee l s)) := by
 refine B0 Tryz.func207 ?_
 refine VW.R ?_
 rcases (by omega : s < 0 \/ (0 <= s /\ (l.length : Int) <= s) \/ (0 <= s /\ s < l.length)) with hs | hs | hs
 ·replace hs : ¬ 0 <= s := by omega
  refine VW.S (fun K kk => by simp [go_sem, hs]; repeat first | exact kk | refine aK ?_) ?_
  refine VW.ret (B2 (by simp [go_sem]) ?_)
  first | (simp [go_sem, Ee, hs, hx]; done) | (simp [go_sem, Ee, hs]; done) | (simp [go_sem, Ee, hs, Ar (show l.length <= s.toNat by omega)]; done)
 ·refine VW.S (fun K kk => by simp [go_sem, hs]; repeat first | exact kk | refine aK ?_) ?_
  refine VW.ret (B2 (by simp [go_sem]) ?_)
  first | (simp [go_sem, Ee, hs, hx]; done) | (simp [go_sem, Ee, hs]; done) | (simp [go_sem, Ee, hs, Ar (show l.length <= s.toNat by omega)]; done)
 have hx : l[s.toNat]? = some l[s.toNat] := Aa (by omega)
 generalize l[s.toNat] = t at hx
 refine VW.S (fun K kk => by simp [go_sem, hs]; repeat first | exact kk | refine aK ?_) ?_
 refine VW.ret (B2 (by simp [go_sem]) ?_)
 first | (simp [go_sem, Ee, hs, hx]; done) | (simp [go_sem, Ee, hs]; done) | (simp [go_sem, Ee, hs, Ar (show l.length <= s.toNat by omega)]; done)
section
variable {P : Program} {n m : Nat} {st : St} {K : Exit -> St -> Prop} {c : Code}
theorem VW.rangeI (N : Nat) (f : Nat -> St) (Inv : Nat -> Prop) (h0 : WkE m st (f 0)) (hi0 : Inv 0) (round : ∀ i, i <= N -> Inv i -> VW P n m c (f i) (Exit.vthen (fun s' => i < N /\ Inv (i + 1) /\ WkE m s' (f (i + 1))) K)) : VW P n m (.loop c) st K := by
 obtain ⟨sel, h1, h2⟩ := h0
 refine .loop_w (fun z s => ∃ i, i + z = N /\ Inv i /\ s = f i) ⟨N, sel, f 0, h1, h2, 0, by omega, hi0, rfl⟩ ?_
 rintro z s ⟨i, hi, hI, rfl⟩
 refine (round i (by omega) hI).mono fun e s => ?_
 cases e with
 | normal =>
  rintro ⟨h3, h6, sel, h4, h5⟩
  exact ⟨z - 1, by omega, sel, _, h4, h5, i + 1, by omega, h6, rfl⟩
 | _ => exact fun h => h
end
structure Vp (caps : List AV) : Prop where
  ren : ∀ ρ, Il ρ caps = caps
  pass : ∀ o, Hh o caps = caps
  passC : ∀ o, Ha o caps
  bor : Ql caps = false
  low : Gk caps = caps
def Dv {α : Type} (p : α -> Bool) : List α -> Nat -> Int
 | [], _ => -1
 | t :: ts, i => if p t then i else Dv p ts (i + 1)
def Fd {α : Type} (p : α -> Bool) (l : List α) : Int := Dv p l 0
theorem Ir {α : Type} (p : α -> Bool) {l : List α} {i : Nat} {x : α} (h : l[i]? = some x) : Dv p (l.drop i) i = if p x then (i : Int) else Dv p (l.drop (i + 1)) (i + 1) := by
 obtain ⟨hi, rfl⟩ := Ab.1 h
 rw [List.drop_eq_getElem_cons hi, Dv]
theorem Jz {α : Type} (p : α -> Bool) (l : List α) : Dv p (l.drop l.length) l.length = -1 := by simp [Dv]
theorem N5 (l : List Dc) (fid : FuncId) (caps : List AV) (p : Dc -> Bool) (hl : l.length <= 1000000) (hc : Vp caps) (hp : ∀ t, PP fid [] (t.g :: caps) [] (.lb (p t))) : PP 274 [] [.mTok l, .fn fid caps] [] (.li (Fd p l)) := by
 refine B0 Tryz.func274 ?_
 refine VW.R <| .seq ?_
 refine VW.R <| .block ?_
 refine VW.rangeI l.length (fun i1 => ⟨[(0, .mTok l), (1, .fn fid caps), (7, .li l.length), (8, .li i1)], []⟩) (fun i1 => Fd p l = Dv p (l.drop i1) i1) ⟨[], Bp (by decide) ?_ ?_, by simp⟩ rfl fun i1 hi1 hI => ?_
 ·simp [go_sem, hc.ren]
 ·simp [go_sem, hc.ren]
 refine VW.R <| .seq ?_
 refine VW.C ?_ ?_ <;> intro h9 <;> simp [go_sem] at h9
 ·have hx : l[i1]? = some l[i1] := Aa h9
  generalize l[i1] = t at hx
  rw [Ir p hx] at hI
  refine VW.skip <| .seq <| .block <| .R ?_
  refine VW.S (fun K kk => by simp [go_sem, hx, hc.pass, hc.passC, hc.bor, hc.low]; (repeat refine aK ?_); refine .lo (hp t) (by simp [go_sem, hc.low]) (by simp) ?_; simp [go_sem, hx, hc.pass, hc.passC, hc.bor, hc.low]; exact kk) ?_
  refine VW.C ?_ ?_ <;> intro h16 <;> simp [go_sem] at h16
  ·rw [if_pos h16] at hI
   refine VW.R ?_
   exact .ret (rL hI)
  rw [h16] at hI
  simp only [Bl, if_false] at hI
  refine VW.skip <| .R1 ?_
  refine ⟨by omega, hI, [], Bp (by decide) ?_ ?_, by simp⟩
  ·simp [go_sem, Bq ((i1 : Int) + 1), hc.ren, h9, h16]
  simp [go_sem]
 have he : i1 = l.length := by omega
 subst he
 rw [Jz] at hI
 refine VW.exit <| .R ?_
 exact .ret (rL hI)
theorem Yd (l : List Dp) (fid : FuncId) (caps : List AV) (p : Dp -> Bool) (hl : l.length <= 1000000) (hc : Vp caps) (hp : ∀ t, PP fid [] (t.g :: caps) [] (.lb (p t))) : PP 178 [] [.mLeg l, .fn fid caps] [] (.li (Fd p l)) := by
 refine B0 Tryz.func178 ?_
 refine VW.R <| .seq ?_
 refine VW.R <| .block ?_
 refine VW.rangeI l.length (fun i1 => ⟨[(0, .mLeg l), (1, .fn fid caps), (7, .li l.length), (8, .li i1)], []⟩) (fun i1 => Fd p l = Dv p (l.drop i1) i1) ⟨[], Bp (by decide) ?_ ?_, by simp⟩ rfl fun i1 hi1 hI => ?_
 ·simp [go_sem, hc.ren]
 ·simp [go_sem, hc.ren]
 refine VW.R <| .seq ?_
 refine VW.C ?_ ?_ <;> intro h9 <;> simp [go_sem] at h9
 ·have hx : l[i1]? = some l[i1] := Aa h9
  generalize l[i1] = t at hx
  rw [Ir p hx] at hI
  refine VW.skip <| .seq <| .block <| .R ?_
  refine VW.S (fun K kk => by simp [go_sem, hx, hc.pass, hc.passC, hc.bor, hc.low]; (repeat refine aK ?_); refine .lo (hp t) (by simp [go_sem, hc.low]) (by simp) ?_; simp [go_sem, hx, hc.pass, hc.passC, hc.bor, hc.low]; exact kk) ?_
  refine VW.C ?_ ?_ <;> intro h16 <;> simp [go_sem] at h16
  ·rw [if_pos h16] at hI
   refine VW.R ?_
   exact .ret (rL hI)
  rw [h16] at hI
  simp only [Bl, if_false] at hI
  refine VW.skip <| .R1 ?_
  refine ⟨by omega, hI, [], Bp (by decide) ?_ ?_, by simp⟩
  ·simp [go_sem, Bq ((i1 : Int) + 1), hc.ren, h9, h16]
  simp [go_sem]
 have he : i1 = l.length := by omega
 subst he
 rw [Jz] at hI
 refine VW.exit <| .R ?_
 exact .ret (rL hI)
theorem Uv (l : List Cj) (fid : FuncId) (caps : List AV) (p : Cj -> Bool) (hl : l.length <= 1000000) (hc : Vp caps) (hp : ∀ t, PP fid [] (t.g :: caps) [] (.lb (p t))) : PP 215 [] [.mClaim l, .fn fid caps] [] (.li (Fd p l)) := by
 refine B0 Tryz.func215 ?_
 refine VW.R <| .seq ?_
 refine VW.R <| .block ?_
 refine VW.rangeI l.length (fun i1 => ⟨[(0, .mClaim l), (1, .fn fid caps), (7, .li l.length), (8, .li i1)], []⟩) (fun i1 => Fd p l = Dv p (l.drop i1) i1) ⟨[], Bp (by decide) ?_ ?_, by simp⟩ rfl fun i1 hi1 hI => ?_
 ·simp [go_sem, hc.ren]
 ·simp [go_sem, hc.ren]
 refine VW.R <| .seq ?_
 refine VW.C ?_ ?_ <;> intro h9 <;> simp [go_sem] at h9
 ·have hx : l[i1]? = some l[i1] := Aa h9
  generalize l[i1] = t at hx
  rw [Ir p hx] at hI
  refine VW.skip <| .seq <| .block <| .R ?_
  refine VW.S (fun K kk => by simp [go_sem, hx, hc.pass, hc.passC, hc.bor, hc.low]; (repeat refine aK ?_); refine .lo (hp t) (by simp [go_sem, hc.low]) (by simp) ?_; simp [go_sem, hx, hc.pass, hc.passC, hc.bor, hc.low]; exact kk) ?_
  refine VW.C ?_ ?_ <;> intro h16 <;> simp [go_sem] at h16
  ·rw [if_pos h16] at hI
   refine VW.R ?_
   exact .ret (rL hI)
  rw [h16] at hI
  simp only [Bl, if_false] at hI
  refine VW.skip <| .R1 ?_
  refine ⟨by omega, hI, [], Bp (by decide) ?_ ?_, by simp⟩
  ·simp [go_sem, Bq ((i1 : Int) + 1), hc.ren, h9, h16]
  simp [go_sem]
 have he : i1 = l.length := by omega
 subst he
 rw [Jz] at hI
 refine VW.exit <| .R ?_
 exact .ret (rL hI)
theorem S8 (l : List Cg) (fid : FuncId) (caps : List AV) (p : Cg -> Bool) (hl : l.length <= 1000000) (hc : Vp caps) (hp : ∀ t, PP fid [] (t.g :: caps) [] (.lb (p t))) : PP 267 [] [.mReq l, .fn fid caps] [] (.li (Fd p l)) := by
 refine B0 Tryz.func267 ?_
 refine VW.R <| .seq ?_
 refine VW.R <| .block ?_
 refine VW.rangeI l.length (fun i1 => ⟨[(0, .mReq l), (1, .fn fid caps), (7, .li l.length), (8, .li i1)], []⟩) (fun i1 => Fd p l = Dv p (l.drop i1) i1) ⟨[], Bp (by decide) ?_ ?_, by simp⟩ rfl fun i1 hi1 hI => ?_
 ·simp [go_sem, hc.ren]
 ·simp [go_sem, hc.ren]
 refine VW.R <| .seq ?_
 refine VW.C ?_ ?_ <;> intro h9 <;> simp [go_sem] at h9
 ·have hx : l[i1]? = some l[i1] := Aa h9
  generalize l[i1] = t at hx
  rw [Ir p hx] at hI
  refine VW.skip <| .seq <| .block <| .R ?_
  refine VW.S (fun K kk => by simp [go_sem, hx, hc.pass, hc.passC, hc.bor, hc.low]; (repeat refine aK ?_); refine .lo (hp t) (by simp [go_sem, hc.low]) (by simp) ?_; simp [go_sem, hx, hc.pass, hc.passC, hc.bor, hc.low]; exact kk) ?_
  refine VW.C ?_ ?_ <;> intro h16 <;> simp [go_sem] at h16
  ·rw [if_pos h16] at hI
   refine VW.R ?_
   exact .ret (rL hI)
  rw [h16] at hI
  simp only [Bl, if_false] at hI
  refine VW.skip <| .R1 ?_
  refine ⟨by omega, hI, [], Bp (by decide) ?_ ?_, by simp⟩
  ·simp [go_sem, Bq ((i1 : Int) + 1), hc.ren, h9, h16]
  simp [go_sem]
 have he : i1 = l.length := by omega
 subst he
 rw [Jz] at hI
 refine VW.exit <| .R ?_
 exact .ret (rL hI)
theorem Uu (l : List Cz) (fid : FuncId) (caps : List AV) (p : Cz -> Bool) (hl : l.length <= 1000000) (hc : Vp caps) (hp : ∀ t, PP fid [] (t.g :: caps) [] (.lb (p t))) : PP 269 [] [.mLight l, .fn fid caps] [] (.li (Fd p l)) := by
 refine B0 Tryz.func269 ?_
 refine VW.R <| .seq ?_
 refine VW.R <| .block ?_
 refine VW.rangeI l.length (fun i1 => ⟨[(0, .mLight l), (1, .fn fid caps), (7, .li l.length), (8, .li i1)], []⟩) (fun i1 => Fd p l = Dv p (l.drop i1) i1) ⟨[], Bp (by decide) ?_ ?_, by simp⟩ rfl fun i1 hi1 hI => ?_
 ·simp [go_sem, hc.ren]
 ·simp [go_sem, hc.ren]
 refine VW.R <| .seq ?_
 refine VW.C ?_ ?_ <;> intro h9 <;> simp [go_sem] at h9
 ·have hx : l[i1]? = some l[i1] := Aa h9
  generalize l[i1] = t at hx
  rw [Ir p hx] at hI
  refine VW.skip <| .seq <| .block <| .R ?_
  refine VW.S (fun K kk => by simp [go_sem, hx, hc.pass, hc.passC, hc.bor, hc.low]; (repeat refine aK ?_); refine .lo (hp t) (by simp [go_sem, hc.low]) (by simp) ?_; simp [go_sem, hx, hc.pass, hc.passC, hc.bor, hc.low]; exact kk) ?_
  refine VW.C ?_ ?_ <;> intro h16 <;> simp [go_sem] at h16
  ·rw [if_pos h16] at hI
   refine VW.R ?_
   exact .ret (rL hI)
  rw [h16] at hI
  simp only [Bl, if_false] at hI
  refine VW.skip <| .R1 ?_
  refine ⟨by omega, hI, [], Bp (by decide) ?_ ?_, by simp⟩
  ·simp [go_sem, Bq ((i1 : Int) + 1), hc.ren, h9, h16]
  simp [go_sem]
 have he : i1 = l.length := by omega
 subst he
 rw [Jz] at hI
 refine VW.exit <| .R ?_
 exact .ret (rL hI)
theorem Yc (l : List B3) (fid : FuncId) (caps : List AV) (p : B3 -> Bool) (hl : l.length <= 1000000) (hc : Vp caps) (hp : ∀ t, t ∈ l -> PP fid [] (t.g :: caps) [] (.lb (p t))) : PP 158 [] [.mMsg l, .fn fid caps] [] (.li (Fd p l)) := by
 refine B0 Tryz.func158 ?_
 refine VW.R <| .seq ?_
 refine VW.R <| .block ?_
 refine VW.rangeI l.length (fun i1 => ⟨[(0, .mMsg l), (1, .fn fid caps), (7, .li l.length), (8, .li i1)], []⟩) (fun i1 => Fd p l = Dv p (l.drop i1) i1) ⟨[], Bp (by decide) ?_ ?_, by simp⟩ rfl fun i1 hi1 hI => ?_
 ·simp [go_sem, hc.ren]
 ·simp [go_sem, hc.ren]
 refine VW.R <| .seq ?_
 refine VW.C ?_ ?_ <;> intro h9 <;> simp [go_sem] at h9
 ·have hx : l[i1]? = some l[i1] := Aa h9
  generalize l[i1] = t at hx
  rw [Ir p hx] at hI
  refine VW.skip <| .seq <| .block <| .R ?_
  refine VW.S (fun K kk => by simp [go_sem, hx, hc.pass, hc.passC, hc.bor, hc.low]; (repeat refine aK ?_); refine .lo (hp t (Ac hx)) (by simp [go_sem, hc.low]) (by simp) ?_; simp [go_sem, hx, hc.pass, hc.passC, hc.bor, hc.low]; exact kk) ?_
  refine VW.C ?_ ?_ <;> intro h16 <;> simp [go_sem] at h16
  ·rw [if_pos h16] at hI
   refine VW.R ?_
   exact .ret (rL hI)
  rw [h16] at hI
  simp only [Bl, if_false] at hI
  refine VW.skip <| .R1 ?_
  refine ⟨by omega, hI, [], Bp (by decide) ?_ ?_, by simp⟩
  ·simp [go_sem, Bq ((i1 : Int) + 1), hc.ren, h9, h16]
  simp [go_sem]
 have he : i1 = l.length := by omega
 subst he
 rw [Jz] at hI
 refine VW.exit <| .R ?_
 exact .ret (rL hI)
theorem Ts {α : Type} (p : α -> Bool) : ∀ (l : List α) (i : Nat), (Dv p l i = -1 /\ ∀ t ∈ l, p t = false) \/ ∃ (k : Nat) (t : α), Dv p l i = (i + k : Nat) /\ l[k]? = some t /\ p t = true /\ ∀ u ∈ l.take k, p u = false
 | [], i => .inl ⟨rfl, fun t h => by cases h⟩
 | a :: l, i => by
  by_cases ha : p a = true
  ·exact .inr ⟨0, a, by simp [Dv, ha], rfl, ha, fun u h => by cases h⟩
  have ha : p a = false := by simpa using ha
  rcases Ts p l (i + 1) with ⟨h1, h2⟩ | ⟨k, t, h1, h2, h3, h4⟩
  ·refine .inl ⟨by simp [Dv, ha, h1], fun t h => ?_⟩
   rcases List.mem_cons.1 h with rfl | h
   ·exact ha
   exact h2 t h
  refine .inr ⟨k + 1, t, by simp [Dv, ha, h1]; omega, h2, h3, fun u h => ?_⟩
  rw [List.take_succ_cons] at h
  rcases List.mem_cons.1 h with rfl | h
  ·exact ha
  exact h4 u h
theorem Xo {α : Type} {p : α -> Bool} {l : List α} (h : ∀ t ∈ l, p t = false) : l.filter (fun t => !p t) = l := List.filter_eq_self.2 fun t ht => by simp [h t ht]
theorem Wn {α : Type} {p : α -> Bool} {l : List α} {j : Nat} {t : α} (h : l[j]? = some t) : (l.take (j + 1)).filter (fun t => !p t) = (l.take j).filter (fun t => !p t) ++ if p t then [] else [t] := by
 rw [List.take_add_one, h, List.filter_append]
 cases hp : p t <;> simp [hp]
end Go.Proofs.YtkkimgjinbaemaaGreat
